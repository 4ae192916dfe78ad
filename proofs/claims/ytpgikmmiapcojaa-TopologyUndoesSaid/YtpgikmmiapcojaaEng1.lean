/- An engine that turns the code of a function into a plain function on tuples, part 1: what it says of a function holds of every run; it has no conditions of its own. -/
import Derived.WalkKit
import Derived.Laws.StructEq
import Derived.ChangeKeysEq
import Derived.Laws.CopyOwn
import Derived.Maps.AppendAt
import Derived.Lib.AppendStr
import Derived.Laws.BytesString
import Derived.Deep.AppendSrc
import Derived.Laws.IdiomCopy
import Derived.MapKept
import Derived.Carry
set_option linter.unusedSimpArgs false
set_option linter.unusedVariables false
set_option linter.defProp false
namespace Go.Eng
open Go.RowKit
def aA:=@if_neg
def aC:=@if_pos
def aM:=@decide_eq_true
def aQ:=@decide_eq_false
def bV:=@cond_false
def cM:=@Bool.and_eq_true
def cH:=@of_decide_eq_true
def cK:=@decide_eq_true_eq
def dM:=@Go.Result.andThen_ok
def bF:=@cond_true
def bO:=@Go.Sem.run_bind
def cC:=@Option.some.injEq
def cN:=@List.mem_cons
def dG:=@List.getElem?_eq_getElem
def cS:=@List.length_map
def dA:=@List.getElem?_eq_some_iff
def cW:=@List.length_set
def cY:=@List.nodup_cons
def eW:=@List.getElem?_map
def eP:=@if_true
def eQ:=@List.mem_cons_of_mem
def fH:=@Option.map_some
def fC:=@List.getElem?_set_ne
def fK:=@List.mem_append
def fL:=@congrArg
def fM:=@Bool.true_and
def gB:=@Option.bind_assoc
def iC:=@Bool.and_eq_true_iff
def gU:=@Nat.le_refl
def iI:=@List.getElem?_set_self
def iK:=@if_false
def iL:=@Go.Sem.run_pure
def jF:=@List.all_eq_true
def jY:=@List.getD_eq_getElem?_getD
def lE:=@List.mem_map
def mS:=@List.mem_of_getElem?
def qT:=@Go.run_underlying
def mT:=@Array.length_toList
def mU:=@List.length_take
def nR:=@Int.toNat_natCast
def oB:=@List.length_cons
def pV:=@Option.bind_eq_some_iff
def pB:=@Bool.false_eq_true
def pD:=@Bool.or_eq_true
def qU:=@List.getElem?_set
def pW:=@List.getElem?_take
def rS:=@Nat.add_zero
def rT:=@List.nodup_append
def sC:=@List.getElem?_append
def uX:=@Option.bind_some
def tM:=@of_decide_eq_false
def tT:=@List.length_append
def tU:=@Nat.add_mul
def tV:=@List.getElem?_drop
def yH:=@Prod.mk.injEq
def tW:=@Eq.trans
def vJ:=@List.eq_nil_of_length_eq_zero
def vK:=@List.getElem?_eq_none
def vL:=@Array.getElem?_eq_getElem
def vM:=@ne_eq
def xA:=@Bool.not_false
def xB:=@List.mem_range
def xC:=@List.length_nil
def AQ:=@Array.getElem?_eq_some_iff
def zO:=@Iff.rfl
def AR:=@List.getElem?_append_left
def AT:=@List.getElem?_cons_zero
def AU:=@List.map_cons
def HO:=@List.all_cons
def CN:=@List.getElem_of_mem
def BP:=@not_true_eq_false
def BQ:=@Bool.not_true
def CO:=@List.mem_filter
def HP:=@beq_iff_eq
def HQ:=@Nat.le_add_right
def HR:=@List.ext_getElem?
def EK:=@not_or
def JB:=@Option.map_eq_some_iff
def EL:=@List.mem_append_left
def EM:=@List.map_append
def EN:=@List.set_set
def EO:=@Iff.trans
def MK:=@Array.getElem?_toList
def E9:=@Nat.mul_le_mul_right
def FA:=@Classical.byContradiction
def ML:=@Bool.and_true
def HS:=@List.getElem?_append_right
def HU:=@Nat.zero_le
def MM:=@List.mem_filterMap
def HV:=@decide_false
def JC:=@List.mem_flatMap
def JD:=@List.append_assoc
def JE:=@List.set_append
def JF:=@List.not_mem_nil
def MN:=@Array.getD_eq_getD_getElem?
def MO:=@List.length_drop
def MP:=@Nat.mul_one
def MQ:=@List.append_nil
def MR:=@Bool.false_and
def FB:=@or_false
def IE:=@List.mem_of_mem_take
def IF:=@List.take_of_length_le
def IG:=@Nat.le_trans
def TU:=@Array.getElem?_modify
def IH:=@Go.Sem.run_ite
def II:=@List.flatMap_cons
def IJ:=@List.map_nil
def OH:=@List.contains_iff_mem
def IK:=@List.mem_append_right
def KW:=@Bool.or_false
def KX:=@Nat.add_sub_cancel
def KY:=@Nat.lt_of_lt_of_le
def TV:=@Nat.add_sub_cancel_left
def KZ:=@List.getElem?_toArray
def K5:=@Go.size_madeCells
def K6:=@List.getElem?_replicate
def K7:=@List.isEmpty_iff
def K8:=@List.filterMap_cons
def K9:=@id_eq
def LA:=@dif_pos
def LB:=@Classical.choose_spec
def OI:=@List.map_congr_left
def ZF:=@List.all_nil
def LC:=@List.append_of_mem
def LD:=@and_congr_right
def LE:=@List.map_take
def OJ:=@List.getElem_mem
def OL:=@Go.heap_alloc_new
def OM:=@List.drop_drop
def ON:=@List.drop_take
def OO:=@Nat.zero_add
def OP:=@Nat.min_eq_left
def OQ:=@List.eq_of_mem_replicate
def OR:=@List.length_replicate
def OS:=@Ne.symm
def OT:=@List.nodup_nil
def OU:=@List.mem_singleton
def OV:=@List.map_toArray
def TW:=@true_and
def OW:=@decide_true
def OX:=@Bool.and_false
def OY:=@List.map_set
def OZ:=@List.length_range
def TX:=@List.mem_of_mem_drop
def ZG:=@List.nil_append
def TY:=@Go.World.block_lt_of_cell?
def TZ:=@Nat.add_assoc
def T0:=@List.drop_zero
def ZH:=@List.getElem?_range
def T1:=@List.getElem?_cons_succ
def T2:=@List.mem_of_mem_head?
def T3:=@List.size_toArray
def T4:=@List.length_singleton
def T5:=@List.take_left
def ZI:=@List.mapM_cons
def T6:=@List.range_succ
def T7:=@List.mem_cons_self
def T8:=@List.set_comm
def T9:=@Bool.false_or
def UA:=@Nat.sub_self
def UB:=@List.reverse_reverse
def UC:=@Bool.eq_false_iff
def UD:=@Bool.eq_iff_iff
def UE:=@List.take_succ_eq_append_getElem
def UF:=@Decidable.em
def UG:=@and_self
def UH:=@Int.tmod_eq_emod_of_nonneg
def ZJ:=@List.take_succ_cons
def ZK:=@List.take_append
def ZL:=@List.drop_eq_getElem_cons
def ZM:=@Nat.lt_or_ge
def ZN:=@Go.setRow_heap
def ZO:=@List.set_eq_take_append_cons_drop
def ZP:=@List.drop_append_of_le_length
def ZQ:=@Go.World.grownBy.refl
def ZR:=@Array.mapM_eq_mapM_toList
def ZS:=@Go.Sem.run_map
def ZT:=@Go.MapKept.run_getObj_map
def ZU:=@Array.toList_eq_nil_iff
def ZV:=@Nat.one_mul
def ZW:=@List.flatMap_append
def ZX:=@Array.ext'
def ZY:=@List.filterMap_map
def ZZ:=@not_false_eq_true
def Z1:=@Array.getElem?_push
def Z2:=@List.foldlM_cons
def Z3:=@Bool.not_eq_true'
def Z4:=@Go.mem_ready
def Z5:=@Go.ready_mono
def Z6:=@Bool.or_eq_false_iff
def Z7:=@Bool.and_self
def Z8:=@Nat.le_antisymm
def Z9:=@List.take_length
def Aa:=@beq_self_eq_true
def Ab:=@Int.le_refl
def Ac:=@Int.tdiv_eq_ediv_of_nonneg
inductive T where
 | v (x:Value)
 | agg (l:List T)
 | sl (k:Nat) (l:List T)
instance:Inhabited T:=⟨.agg []⟩
def T.cells:T→List T
 | .agg l=>l
 | t=>[t]
def flat(l:List T):List T:=l.flatMap T.cells
theorem rH(t:T)(l:List T):flat (t::l)=t.cells++flat l:=by simp[flat]
theorem yI(l m:List T):flat (l++m)=flat l++flat m:=by simp[flat]
def dr(k:Nat)(l:List T):Prop:=∀t∈l,t.cells.length=k
theorem dr.nil(k:Nat):dr k []:=fun _ h=>by cases h
theorem dr.append{k:Nat}{l m:List T}(h:dr k l)(h':dr k m):dr k (l++m):=fun t ht=>by
 rcases fK.1 ht with ht | ht
 ·exact h t ht
 ·exact h' t ht
theorem dr.length{k:Nat}{l:List T}(h:dr k l):(flat l).length=l.length*k:=by
 induction l with
 | nil=>simp[flat]
 | cons t l ih=>
  rw[rH,tT,h t (by simp),ih (fun t ht=>h t (by simp[ht])),oB,tU]
  omega
theorem dr.drop{k:Nat}{l:List T}(h:dr k l)(n:Nat):dr k (l.drop n):=fun t ht=>h t (TX ht)
theorem dr.take{k:Nat}{l:List T}(h:dr k l)(n:Nat):dr k (l.take n):=fun t ht=>h t (IE ht)
theorem dr.cr{k:Nat}{l:List T}(h:dr k l)(n:Nat):flat (l.drop n)=(flat l).drop (n*k):=by
 induction l generalizing n with
 | nil=>simp[flat]
 | cons t l ih=>
  cases n with
  | zero=>simp
  | succ n=>
   have hk:=h t (by simp)
   have e:(n+1)*k=n*k+k:=by rw[tU];omega
   rw[List.drop_succ_cons,ih (fun t ht=>h t (by simp[ht])),rH,List.drop_append,List.drop_eq_nil_of_le (as:=t.cells) (by omega),ZG,e,hk,KX]
theorem dr.dd{k:Nat}{l:List T}(h:dr k l)(n:Nat):flat (l.take n)=(flat l).take (n*k):=by
 induction l generalizing n with
 | nil=>simp[flat]
 | cons t l ih=>
  cases n with
  | zero=>simp[flat]
  | succ n=>
   have hk:=h t (by simp)
   have e:(n+1)*k=n*k+k:=by rw[tU];omega
   rw[ZJ,rH,rH,ih (fun t ht=>h t (by simp[ht])),ZK,IF (l:=t.cells) (by omega),e,hk,KX]
theorem dr.cell{k:Nat}{l:List T}(h:dr k l){i:Nat}{t:T}(hi:l[i]?=some t)(j:Nat)(hj:j<k):(flat l)[i*k+j]?=t.cells[j]?:=by
 have hd:=h.cr i
 obtain⟨hlt,rfl⟩:=dA.1 hi
 rw[ZL hlt,rH] at hd
 have:=fL (fun x=>x[j]?) hd
 simp only[tV] at this
 rw[←this,AR (by rw[h _ (OJ hlt)];exact hj)]
def DB:Nat→T→Option Value
 | 0,.v (.int .i64 a)=>some (.int .i64 a)
 | _,_=>none
def WP(v:T)(y:Value):Prop:=(∃l,v=.agg l)∨y.oneCell'=true
inductive Rd (w:World) (X:Nat→Prop):T→Value→Prop
 | v (x:Value):Rd w X (.v x) x
 | agg (l:List T) (cs:Array Value) (hl:cs.size=l.length) (h1:∀(i:Nat) y,cs[i]?=some y→y.oneCell'=true)
  (h:∀(i:Nat) t y,l[i]?=some t→cs[i]?=some y→Rd w X t y):Rd w X (.agg l) (.agg cs)
 | nil (k:Nat) (hk:k<1000000000):Rd w X (.sl k []) (.slice none 0 0)
 | mp (n:Nat) (l:List T) (g:Nat) (es:Array MapEntry) (clock:Nat) (hn:1000000000≤n) (hg:w.heap[g]?=some (.map es clock)) (hx:¬X g) (hl:es.size=l.length)
  (hs:∀(i:Nat) t e,l[i]?=some t→es[i]?=some e→∃k v,t=.agg [k,v]∧DB (n-1000000000) k=some e.key∧WP v e.val)
  (hv:∀(i:Nat) k v e,l[i]?=some (.agg [k,v])→es[i]?=some e→Rd w X v e.val):Rd w X (.sl n l) (.map (some g))
 | sl (k:Nat) (l:List T) (a:Addr) (c:Nat) (ys:List Value) (hk:k<1000000000) (hc:l.length≤c) (hm:c≤maxLen) (hu:dr k l) (hy:ys.length=(flat l).length)
  (hcell:∀(i:Nat) y,ys[i]?=some y→w.cell? (a.add i)=some y∧¬X a.block∧y.oneCell'=true)
  (h:∀(i:Nat) t y,(flat l)[i]?=some t→ys[i]?=some y→Rd w X t y):Rd w X (.sl k l) (.slice (some a) l.length c)
structure cf (Y:Nat→Prop) (w w':World):Prop where
 os:w'.os=w.os
 tape:w'.tape=w.tape
 output:w'.output=w.output
 size:w.heap.size≤w'.heap.size
 bq:∀b,b<w.heap.size→¬Y b→w'.heap[b]?=w.heap[b]?
theorem cf.refl(Y:Nat→Prop)(w:World):cf Y w w:=⟨rfl,rfl,rfl,gU _,fun _ _ _=>rfl⟩
theorem cf.trans{Y:Nat→Prop}{a b c:World}(h:cf Y a b)(k:cf Y b c):cf Y a c:=
 ⟨k.os.trans h.os,k.tape.trans h.tape,k.output.trans h.output,IG h.size k.size,
  fun x hx hy=>(k.bq x (KY hx h.size) hy).trans (h.bq x hx hy)⟩
theorem cf.after{Y Z:Nat→Prop}{a b c:World}(h:cf Y a b)(k:cf Z b c)(hz:∀x,Z x→x<a.heap.size→Y x):cf Y a c:=
 ⟨k.os.trans h.os,k.tape.trans h.tape,k.output.trans h.output,IG h.size k.size,
  fun x hx hy=>(k.bq x (KY hx h.size) (fun hzx=>hy (hz x hzx hx))).trans (h.bq x hx hy)⟩
theorem cf.mono{Y Z:Nat→Prop}{a b:World}(h:cf Y a b)(hz:∀x,Y x→x<a.heap.size→Z x):cf Z a b:=
 ⟨h.os,h.tape,h.output,h.size,fun x hx hn=>h.bq x hx (fun hy=>hn (hz x hy hx))⟩
theorem cf.drew(Y:Nat→Prop)(w:World):cf Y w w.drew:=⟨rfl,rfl,rfl,gU _,fun _ _ _=>rfl⟩
theorem cf.alloc(Y:Nat→Prop)(w:World)(o:Obj):cf Y w (w.alloc o):=
 ⟨rfl,rfl,rfl,by simp,fun b hb _=>Below.heap_alloc w o b hb⟩
theorem cf.setCell(Y:Nat→Prop)(w:World)(a:Addr)(u:Value)(h:Y a.block):cf Y w (w.setCell a u):=
 ⟨rfl,rfl,rfl,by simp[World.setCell],fun b _ hy=>Below.heap_setCell w a u b (fun e=>hy (e▸h))⟩
theorem cf.grown{Y:Nat→Prop}{w w':World}{row:Option Nat}(h:w.grownBy w' row)(hr:∀g,row=some g→Y g):cf Y w w':=
 ⟨h.os,h.tape,h.output,h.size,fun b hb hy=>h.block b hb (fun e=>hy (hr b e.symm))⟩
theorem cf.below{Y:Nat→Prop}{w w':World}(h:cf Y w w')(hy:∀b,¬Y b):Below w.heap.size w w':=
 ⟨h.os,h.tape,h.output,h.size,fun b hb=>h.bq b hb (hy b)⟩
theorem cf.cell{Y:Nat→Prop}{w w':World}(h:cf Y w w'){a:Addr}{y:Value}(hc:w.cell? a=some y)(hy:¬Y a.block):w'.cell? a=some y:=
 (World.cell?_of_block (h.bq a.block (TY w a hc) hy)).trans hc
theorem uY(a:Addr)(i:Nat):(a.add i).block=a.block:=by unfold Addr.add;split <;> rfl
theorem sU(a:Addr)(i j:Nat):(a.add i).add j=a.add (i+j):=by
 unfold Addr.add
 by_cases hi:i=0 <;> by_cases hj:j=0 <;> simp[hi,hj,TZ]
theorem Rd.step{w w':World}{X X' Y:Nat→Prop}{t:T}{y:Value}(h:Rd w X t y)(hs:cf Y w w')(hY:∀b,Y b→X b)
 (hX:∀b,X' b→X b∨w.heap.size≤b):Rd w' X' t y:=by
 induction h with
 | v x=>exact .v x
 | agg l cs hl h1 _ ih=>exact .agg l cs hl h1 ih
 | nil k hk=>exact .nil k hk
 | mp n l g es clock hn hg hx hl hs' _ ih=>
  have hlt:g<w.heap.size:=(AQ.1 hg).1
  refine .mp n l g es clock hn ((hs.bq g hlt fun hy=>hx (hY _ hy)).trans hg) (fun hx'=>?_) hl hs' ih
  rcases hX _ hx' with h | h
  ·exact hx h
  ·omega
 | sl k l a c ys hk hc hm hu hy hcell _ ih=>
  refine .sl k l a c ys hk hc hm hu hy (fun i y hi=>?_) ih
  obtain⟨h1,h2,h3⟩:=hcell i y hi
  have hlt:=TY w _ h1
  rw[uY] at hlt
  refine⟨hs.cell h1 (by rw[uY];exact fun hb=>h2 (hY _ hb)),fun hx=>?_,h3⟩
  rcases hX _ hx with h | h
  ·exact h2 h
  ·omega
theorem Rd.ie{w:World}{X X':Nat→Prop}{t:T}{y:Value}(h:Rd w X t y)(hX:∀b,X' b→X b):Rd w X' t y:=
 h.step (Y:=fun _=>False) (.refl _ w) (fun _ h=>h.elim) (fun b hb=>.inl (hX b hb))
theorem Rd.cq{w:World}{X:Nat→Prop}{x y:Value}(h:Rd w X (.v x) y):y=x:=by cases h;rfl
inductive C where
 | t (x:T)
 | box (k j:Nat)
 | row (k:Nat)
 | pe (n:Nat) (x:T) (j:Nat)
 | ib (k n i j:Nat)
 | fn (f:Nat) (caps:List (Nat×Nat))
 | self (t:TypeId)
 | cut (k n lo len:Nat) (tight:Bool)
 | fg
 | rk (k:Nat)
 | kn (k i:Nat)
 | fh (k i:Nat)
 | top
inductive S1 where
 | c (x:C)
 | agg (l:List C)
inductive D where
 | s (x:S1)
 | ee (l:List S1)
def D.top:D:=.s (.c .top)
instance:Inhabited D:=⟨D.top⟩
instance:Inhabited C:=⟨.top⟩
inductive O where
 | box (l:List C)
 | row (fz:Bool) (e:TypeId) (n:Nat) (l:List T)
 | mp (fz:Bool) (e:TypeId) (n:Nat) (l:List T)
 | cu (l:List C)
 | rr (hole:Option Nat) (e e2:TypeId) (n:Nat) (l:List (List T))
 | fwd (k:Nat)
 | dead
 | fresh
instance:Inhabited O:=⟨.fresh⟩
def O.live:O→Bool
 | .box _=>true
 | .row fz _ _ _=>!fz
 | .mp fz _ _ _=>!fz
 | .rr _ _ _ _ _=>true
 | _=>false
def SC(e:TypeId)(n:Nat)(l:List T):O:=if n<1000000000 then .row false e n l else .mp false e n l
structure St where
 np:Nat
 env:List D
 ae:List O
def JG:Value→Option Addr
 | .pointer (some a)=>some a
 | .slice (some a) _ _=>some a
 | _=>none
def O0(h:Value)(j:Nat)(y:Value):Prop:=∃a,JG h=some a∧y=.pointer (some (a.add j))
def ei(h:Value)(n lo len:Nat)(tight:Bool)(y:Value):Prop:=
 ∃ao L c cc ao',h=.slice ao L c∧y=.slice ao' len cc∧lo+len≤L∧len≤cc∧lo+cc≤c∧(0<cc→ao'=ao.map (·.add (lo*n)))∧(tight=true→cc=len)
def bq:Value→Option Nat
 | .pointer (some a)=>some a.block
 | .slice (some a) _ c=>if c=0 then none else some a.block
 | .map (some g)=>some g
 | _=>none
def de(h:Value)(b:Nat):Prop:=bq h=some b∨∃vs:Array Value,h=.tuple vs∧∃v∈vs.toList,bq v=some b
theorem de.one{h:Value}{b:Nat}(hb:de h b)(h1:h.oneCell'=true):bq h=some b:=by
 rcases hb with hb | ⟨vs,rfl,_⟩
 ·exact hb
 ·cases h1
theorem de.of{h:Value}{b:Nat}(hb:bq h=some b):de h b:=.inl hb
def rowAt(w:World)(e:TypeId)(n:Nat)(h:Value)(len:Nat)(xs:List Value):Prop:=
 xs.length=len*n∧(((h=.slice none 0 0∨∃a,h=.slice (some a) 0 0)∧len=0) ∨
  ∃g off cap jE,h=.slice (some ⟨g,off,none⟩) len cap∧0<cap∧w.heap[g]?=some (.cells jE e (0,0))∧len≤cap∧cap≤maxLen∧off+cap*n≤jE.size∧(jE.toList.drop off).take (len*n)=xs)
theorem rowAt.nil(w:World)(e:TypeId)(n:Nat):rowAt w e n (.slice none 0 0) 0 []:=⟨by simp,.inl ⟨.inl rfl,rfl⟩⟩
theorem rowAt.one{w:World}{e:TypeId}{n len:Nat}{h:Value}{xs:List Value}(hr:rowAt w e n h len xs):h.oneCell'=true:=by
 rcases hr.2 with⟨rfl | ⟨a,rfl⟩,_⟩ | ⟨g,off,cap,jE,rfl,_⟩ <;> rfl
theorem rowAt.jq{w:World}{b e n len:Nat}{h:Value}{xs:List Value}(ho:w.ownsRow b e n h len xs):rowAt w e n h len xs:=by
 refine⟨ho.1,?_⟩
 rcases ho.2 with⟨h1,h2⟩ | ⟨g,cap,jE,h1,_,h3,h4,h5,h6,h7⟩
 ·exact .inl ⟨.inl h1,h2⟩
 ·by_cases hc:cap=0
  ·subst hc
   have:len=0:=by omega
   subst this
   exact .inl ⟨.inr ⟨_,h1⟩,rfl⟩
  ·exact .inr ⟨g,0,cap,jE,h1,by omega,h3,h4,h5,by omega,by rw[T0];exact h7⟩
theorem rowAt.cells{w:World}{e:TypeId}{n len:Nat}{h:Value}{xs:List Value}(hr:rowAt w e n h len xs){a:Addr}{len' cap:Nat}(ha:h=.slice (some a) len' cap)(i:Nat)(y:Value)(hi:xs[i]?=some y):w.cell? (a.add i)=some y:=by
 rcases hr.2 with⟨_,h0⟩ | ⟨g,off,cap',jE,h1,h2,h3,h4,h5,h6,h7⟩
 ·have h1:=hr.1
  rw[h0,Nat.zero_mul] at h1
  rw[vJ h1] at hi
  cases hi
 ·rw[ha] at h1
  cases h1
  have hadd:(⟨g,off,none⟩:Addr).add i=⟨g,off+i,none⟩:=by unfold Addr.add;split <;> simp_all
  rw[hadd]
  simp only[World.cell?,h3]
  rw[←h7,pW] at hi
  split at hi
  ·rw[tV] at hi
   simpa using hi
  ·cases hi
def UI:List C→Option TypeId
 | .self t::_=>some t
 | _=>none
def cz(l:List C)(g:Nat)(ys:Array Value)(ty:TypeId):Prop:=∀t,UI l=some t→ty=t∧∃y,ys[0]?=some y∧(y=.pointer none∨y=.pointer (some ⟨g,0,none⟩))
theorem cz.none{l:List C}{g:Nat}{ys:Array Value}{ty:TypeId}(h:UI l=none):cz l g ys ty:=fun t ht=>by rw[h] at ht;cases ht
def cd(l m:List C):Prop:=∀(i:Nat) t,m[i]?=some (.self t)→l[i]?=some (.self t)
theorem CP{l:List C}{t:TypeId}:UI l=some t↔l[0]?=some (.self t):=by
 match l with
 | []=>simp[UI]
 | c::l=>cases c <;> simp[UI]
theorem cd.head{l m:List C}(h:cd l m){g:Nat}{ys:Array Value}{ty:TypeId}(hh:cz l g ys ty):cz m g ys ty:=fun t ht=>hh t (CP.2 (h 0 t (CP.1 ht)))
theorem cd.right{l m m':List C}(h:cd (l++m) m'):cd m (m'.drop l.length):=fun i t hi=>by
 rw[tV] at hi
 have:=h _ t hi
 rwa[HS (HQ _ _),TV] at this
theorem cd.left{l m m':List C}(h:cd (l++m) m'):cd l (m'.take l.length):=fun i t hi=>by
 rw[pW] at hi
 split at hi
 ·rename_i hlt
  have:=h _ t hi
  rwa[AR hlt] at this
 ·cases hi
section
variable (w:World) (X:Nat→Prop) (ρ:Nat→Option Value)
def ij(n:Nat)(x:T)(a:Addr):Prop:=
 x.cells.length=n∧∃ys:List Value,ys.length=n∧(∀(i:Nat) y,ys[i]?=some y→w.cell? (a.add i)=some y∧¬X a.block∧y.oneCell'=true) ∧
  ∀(i:Nat) t y,x.cells[i]?=some t→ys[i]?=some y→Rd w X t y
def ia:C→Value→Prop
 | .t x,y=>Rd w X x y
 | .box k j,y=>∃h,ρ k=some h∧O0 h j y
 | .row k,y=>ρ k=some y
 | .pe n x j,y=>∃a,y=.pointer (some (a.add j))∧ij w X n x a
 | .ib k n i j,y=>∃h,ρ k=some h∧O0 h (i*n+j) y
 | .fn f caps,y=>∃hs:List Value,y=.func (.func f) #[] hs.toArray∧hs.length=caps.length∧∀(i:Nat) p v,caps[i]?=some p→hs[i]?=some v→∃h,ρ p.1=some h∧O0 h p.2 v
 | .self _,_=>True
 | .cut k n lo len tg,y=>∃h,ρ k=some h∧ei h n lo len tg y
 | .fg,y=>∃b,y=.bool b
 | .rk k,y=>∃vs:Array Value,ρ k=some (.tuple vs)∧vs[0]?=some y
 | .kn k i,y=>∃(vs:Array Value) (h:Value),ρ k=some (.tuple vs)∧vs[0]?=some h∧O0 h i y
 | .fh k i,y=>∃vs:Array Value,ρ k=some (.tuple vs)∧vs[i+1]?=some y
 | .top,_=>True
def ch(c:C)(y:Value):Prop:=c=.top∨(ia w X ρ c y∧y.oneCell'=true)
def bu(l:List C)(ys:List Value):Prop:=ys.length=l.length∧∀(i:Nat) c y,l[i]?=some c→ys[i]?=some y→ch w X ρ c y
def ek:S1→Value→Prop
 | .c c,y=>ch w X ρ c y
 | .agg l,y=>∃cs:Array Value,y=.agg cs∧bu w X ρ l cs.toList
def cy(l:List S1)(ys:List Value):Prop:=ys.length=l.length∧∀(i:Nat) s y,l[i]?=some s→ys[i]?=some y→ek w X ρ s y
def ay:D→Value→Prop
 | .s s,y=>ek w X ρ s y
 | .ee l,y=>∃vs:Array Value,y=.tuple vs∧cy w X ρ l vs.toList
def dk(l:List T)(ys:List Value):Prop:=ys.length=l.length∧∀(i:Nat) t y,l[i]?=some t→ys[i]?=some y→Rd w X t y∧y.oneCell'=true
def ft(n:Nat)(l:List T)(es:Array MapEntry)(clock:Nat):Prop:=es.size=l.length ∧
 (∀(i:Nat) t e,l[i]?=some t→es[i]?=some e→∃k v,t=.agg [k,v]∧DB (n-1000000000) k=some e.key∧WP v e.val) ∧
 (∀(i:Nat) k v e,l[i]?=some (.agg [k,v])→es[i]?=some e→Rd w X v e.val)∧clock=es.size∧∀(i:Nat) e,es[i]?=some e→e.born=i
def jb(hole:Option Nat)(e e2:TypeId)(n:Nat)(l:List (List T))(h:Value):Prop:=(0<n∧n<1000000000)∧∃(ho:Value) (hs xs:List Value),h=.tuple (ho::hs).toArray ∧
 rowAt w e 1 ho l.length xs∧hs.length=l.length∧(∀(i:Nat) y z,xs[i]?=some y→hs[i]?=some z→y.oneCell'=true∧(hole≠some i→y=z)) ∧
 (∀(i:Nat) m y,l[i]?=some m→hs[i]?=some y→dr n m∧∃ys,rowAt w e2 n y m.length ys∧dk w X (flat m) ys) ∧
 ∀(i j:Nat) y z b,(ho::hs)[i]?=some y→(ho::hs)[j]?=some z→bq y=some b→bq z=some b→i=j
def ct(h:Value):O→Prop
 | .box l=>∃g ys ty,h=.pointer (some ⟨g,0,none⟩)∧w.heap[g]?=some (.cells ys ty (0,0))∧cz l g ys ty∧bu w X ρ l ys.toList
 | .cu l=>∃g ys ty,h=.pointer (some ⟨g,0,none⟩)∧w.heap[g]?=some (.cells ys ty (0,0))∧bu w X ρ l ys.toList∧¬X g
 | .mp fz e n l=>1000000000≤n∧∃g es clock,h=.map (some g)∧w.heap[g]?=some (.map es clock)∧ft w X n l es clock∧(fz=true→¬X g)
 | .row fz e n l=>(0<n∧n<1000000000)∧dr n l∧(∃xs,rowAt w e n h l.length xs∧dk w X (flat l) xs)∧(fz=true→∀b,bq h=some b→¬X b)
 | .rr hole e e2 n l=>jb w X hole e e2 n l h
 | .fwd k=>∃vs vs':Array Value,h=.tuple vs∧ρ k=some (.tuple vs')∧vs'[0]?=vs[0]?
 | _=>True
end
abbrev nT:=Nat→Option Value
structure cn where
 nv:nT
 ex:List (D×Value)
def Has(ae:List O)(ρ:nT)(k b:Nat):Prop:=∃(o:O) (h:Value),ae[k]?=some o∧o.live=true∧ρ k=some h∧de h b
def BM(ae:List O)(ρ:nT)(b:Nat):Prop:=∃k,Has ae ρ k b
def XB(ae:List O)(ρ:nT)(Xc:Nat→Prop)(b:Nat):Prop:=BM ae ρ b∨Xc b
def Wx(ae:List O)(ρ:nT):Prop:=∀(k k' b:Nat),Has ae ρ k b→Has ae ρ k' b→k=k'
def Ut(w:World)(X:Nat→Prop)(ρ:nT)(k:Nat):O→Prop
 | .dead=>True
 | .fresh=>ρ k=none
 | o=>∃h,ρ k=some h∧ct w X ρ h o
structure Rel (w0:World) (F Xc:Nat→Prop) (ρ0:cn) (ρ:nT) (st:St) (a:Act) (w:World):Prop where
 len:a.tmps.size=st.env.length
 env:∀(i:Nat) d y,st.env[i]?=some d→a.tmps[i]?=some y→ay w (XB st.ae ρ Xc) ρ d y
 ae:∀(k:Nat) o,st.ae[k]?=some o→Ut w (XB st.ae ρ Xc) ρ k o
 sep:Wx st.ae ρ
 own:∀b,BM st.ae ρ b→w0.heap.size≤b∨F b
 par:∀k,k<st.np→ρ k=ρ0.nv k
 defers:a.defers=[]
 frame:cf F w0 w
 jo:∀b,Xc b→b<w0.heap.size
 xc:∀b,BM st.ae ρ b→¬Xc b
 ext:∀p∈ρ0.ex,ay w (XB st.ae ρ Xc) ρ p.1 p.2
def fu(ρ ρ':nT):Prop:=∀k h,ρ k=some h→ρ' k=some h
theorem fu.refl(ρ:nT):fu ρ ρ:=fun _ _ h=>h
section
variable {w w':World} {X X' Y:Nat→Prop} {ρ ρ':nT}
theorem ij.step{n:Nat}{x:T}{a:Addr}(h:ij w X n x a)(hs:cf Y w w')(hY:∀b,Y b→X b)(hX:∀b,X' b→X b∨w.heap.size≤b):ij w' X' n x a:=by
 obtain⟨h0,ys,hl,hc,ht⟩:=h
 refine⟨h0,ys,hl,fun i y hi=>?_,fun i t y h1 h2=>(ht i t y h1 h2).step hs hY hX⟩
 obtain⟨h1,h2,h3⟩:=hc i y hi
 have hlt:=TY w _ h1
 rw[uY] at hlt
 refine⟨hs.cell h1 (by rw[uY];exact fun hb=>h2 (hY _ hb)),fun hx=>?_,h3⟩
 rcases hX _ hx with h | h
 ·exact h2 h
 ·omega
theorem ia.step{c:C}{y:Value}(h:ia w X ρ c y)(hs:cf Y w w')(hY:∀b,Y b→X b)(hX:∀b,X' b→X b∨w.heap.size≤b)(hρ:fu ρ ρ'):ia w' X' ρ' c y:=by
 cases c with
 | t x=>exact Rd.step h hs hY hX
 | box k j=>obtain⟨v,h1,h2⟩:=h;exact⟨v,hρ _ _ h1,h2⟩
 | row k=>exact hρ _ _ h
 | pe n x j=>obtain⟨a,h1,h2⟩:=h;exact⟨a,h1,h2.step hs hY hX⟩
 | ib k n i j=>obtain⟨v,h1,h2⟩:=h;exact⟨v,hρ _ _ h1,h2⟩
 | fn f caps=>
  obtain⟨hs',h1,h2,h3⟩:=h
  refine⟨hs',h1,h2,fun i p v hp hv=>?_⟩
  obtain⟨v',e1,e2⟩:=h3 i p v hp hv
  exact⟨v',hρ _ _ e1,e2⟩
 | self t=>trivial
 | cut k n lo len tg=>obtain⟨v,h1,h2⟩:=h;exact⟨v,hρ _ _ h1,h2⟩
 | fg=>exact h
 | rk k=>obtain⟨vs,h1,h2⟩:=h;exact⟨vs,hρ _ _ h1,h2⟩
 | kn k i=>obtain⟨vs,v,h1,h2,h3⟩:=h;exact⟨vs,v,hρ _ _ h1,h2,h3⟩
 | fh k i=>obtain⟨vs,h1,h2⟩:=h;exact⟨vs,hρ _ _ h1,h2⟩
 | top=>trivial
theorem ch.step{c:C}{y:Value}(h:ch w X ρ c y)(hs:cf Y w w')(hY:∀b,Y b→X b)(hX:∀b,X' b→X b∨w.heap.size≤b)(hρ:fu ρ ρ'):ch w' X' ρ' c y:=
 h.imp id fun⟨h1,h2⟩=>⟨h1.step hs hY hX hρ,h2⟩
theorem bu.step{l:List C}{ys:List Value}(h:bu w X ρ l ys)(hs:cf Y w w')(hY:∀b,Y b→X b)(hX:∀b,X' b→X b∨w.heap.size≤b)(hρ:fu ρ ρ'):bu w' X' ρ' l ys:=
 ⟨h.1,fun i c y h1 h2=>(h.2 i c y h1 h2).step hs hY hX hρ⟩
theorem ek.step{s:S1}{y:Value}(h:ek w X ρ s y)(hs:cf Y w w')(hY:∀b,Y b→X b)(hX:∀b,X' b→X b∨w.heap.size≤b)(hρ:fu ρ ρ'):ek w' X' ρ' s y:=by
 cases s with
 | c c=>exact ch.step h hs hY hX hρ
 | agg l=>obtain⟨cs,e,hl⟩:=h;exact⟨cs,e,hl.step hs hY hX hρ⟩
theorem cy.step{l:List S1}{ys:List Value}(h:cy w X ρ l ys)(hs:cf Y w w')(hY:∀b,Y b→X b)(hX:∀b,X' b→X b∨w.heap.size≤b)(hρ:fu ρ ρ'):cy w' X' ρ' l ys:=
 ⟨h.1,fun i c y h1 h2=>(h.2 i c y h1 h2).step hs hY hX hρ⟩
theorem ay.step{d:D}{y:Value}(h:ay w X ρ d y)(hs:cf Y w w')(hY:∀b,Y b→X b)(hX:∀b,X' b→X b∨w.heap.size≤b)(hρ:fu ρ ρ'):ay w' X' ρ' d y:=by
 cases d with
 | s s=>exact ek.step h hs hY hX hρ
 | ee l=>obtain⟨vs,e,hl⟩:=h;exact⟨vs,e,hl.step hs hY hX hρ⟩
theorem dk.step{l:List T}{ys:List Value}(h:dk w X l ys)(hs:cf Y w w')(hY:∀b,Y b→X b)(hX:∀b,X' b→X b∨w.heap.size≤b):dk w' X' l ys:=
 ⟨h.1,fun i t y h1 h2=>⟨(h.2 i t y h1 h2).1.step hs hY hX,(h.2 i t y h1 h2).2⟩⟩
theorem ft.step{n clock:Nat}{l:List T}{es:Array MapEntry}(h:ft w X n l es clock)(hs:cf Y w w')(hY:∀b,Y b→X b)(hX:∀b,X' b→X b∨w.heap.size≤b):ft w' X' n l es clock:=
 ⟨h.1,h.2.1,fun i k v e h1 h2=>(h.2.2.1 i k v e h1 h2).step hs hY hX,h.2.2.2⟩
theorem rowAt.step{e:TypeId}{n len:Nat}{h:Value}{xs:List Value}(hr:rowAt w e n h len xs)(hs:cf Y w w')(hb:∀b,bq h=some b→¬Y b):rowAt w' e n h len xs:=by
 refine⟨hr.1,?_⟩
 rcases hr.2 with hn | ⟨g,off,cap,jE,e',hb',hg,rest⟩
 ·exact .inl hn
 ·have hlt:g<w.heap.size:=(AQ.1 hg).1
  exact .inr ⟨g,off,cap,jE,e',hb',(hs.bq g hlt (hb g (by simp[e',bq];omega))).trans hg,rest⟩
theorem rowAt.lt{e:TypeId}{n len:Nat}{h:Value}{xs:List Value}(hr:rowAt w e n h len xs){b:Nat}(hb:bq h=some b):b<w.heap.size:=by
 rcases hr.2 with⟨hn | ⟨a,hn⟩,_⟩ | ⟨g,off,cap,jE,e',hb',hg,rest⟩
 ·simp[hn,bq] at hb
 ·simp[hn,bq] at hb
 ·simp[e',bq] at hb
  exact hb.2▸(AQ.1 hg).1
theorem jb.step{hole:Option Nat}{e e2:TypeId}{n:Nat}{l:List (List T)}{h:Value}(ho:jb w X hole e e2 n l h)(hs:cf Y w w')(hY:∀b,Y b→X b)(hX:∀b,X' b→X b∨w.heap.size≤b)
 (hb:∀b,de h b→¬Y b):jb w' X' hole e e2 n l h:=by
 obtain⟨h0,v,vs,xs,rfl,h1,h2,h3,h4,h5⟩:=ho
 have ez:∀y∈v::vs,∀b,bq y=some b→¬Y b:=fun y hy b hyb=>hb b (.inr ⟨_,rfl,y,by simpa using hy,hyb⟩)
 refine⟨h0,v,vs,xs,rfl,h1.step hs (ez v (by simp)),h2,h3,fun i m y e1 e3=>?_,h5⟩
 obtain⟨q1,ys,q2,q3⟩:=h4 i m y e1 e3
 exact⟨q1,ys,q2.step hs (ez y (by simp[mS e3])),q3.step hs hY hX⟩
theorem jb.lt{hole:Option Nat}{e e2:TypeId}{n:Nat}{l:List (List T)}{h:Value}(ho:jb w X hole e e2 n l h){b:Nat}(hb:de h b):b<w.heap.size:=by
 obtain⟨h0,v,vs,xs,rfl,h1,h2,h3,h4,h5⟩:=ho
 rcases hb with hb | ⟨us,hus,y,hy,hyb⟩
 ·cases hb
 ·cases hus
  simp only[cN] at hy
  rcases hy with rfl | hy
  ·exact h1.lt hyb
  ·obtain⟨i,hi,rfl⟩:=CN hy
   have hlt:i<l.length:=by omega
   obtain⟨_,ys,q2,_⟩:=h4 i _ _ (dG hlt) (dG hi)
   exact q2.lt hyb
theorem ct.step{h:Value}{o:O}(ho:ct w X ρ h o)(hs:cf Y w w')(hY:∀b,Y b→X b)(hX:∀b,X' b→X b∨w.heap.size≤b)(hρ:fu ρ ρ')
 (hb:∀b,de h b→¬Y b):ct w' X' ρ' h o:=by
 replace hb':=hb
 replace hb:∀b,bq h=some b→¬Y b:=fun b e=>hb b (.inl e)
 cases o with
 | rr hole e e2 n l=>exact jb.step ho hs hY hX hb'
 | fwd k=>obtain⟨vs,vs',e1,e2,e3⟩:=ho;exact⟨vs,vs',e1,hρ _ _ e2,e3⟩
 | box l=>
  obtain⟨g,ys,ty,e,hg,hh,hl⟩:=ho
  have hlt:g<w.heap.size:=(AQ.1 hg).1
  exact⟨g,ys,ty,e,(hs.bq g hlt (hb g (by simp[e,bq]))).trans hg,hh,hl.step hs hY hX hρ⟩
 | row fz e n l=>
  obtain⟨h0,hu,⟨xs,hown,hr⟩,hf⟩:=ho
  refine⟨h0,hu,⟨xs,⟨hown.1,?_⟩,hr.step hs hY hX⟩,fun hz b hbb hx=>?_⟩
  ·rcases hown.2 with hn | ⟨g,off,cap,jE,e',hb',hg,rest⟩
   ·exact .inl hn
   ·have hlt:g<w.heap.size:=(AQ.1 hg).1
    exact .inr ⟨g,off,cap,jE,e',hb',(hs.bq g hlt (hb g (by simp[e',bq];omega))).trans hg,rest⟩
  ·rcases hX b hx with hx | hx
   ·exact hf hz b hbb hx
   ·rcases hown.2 with⟨hn | ⟨a,hn⟩,_⟩ | ⟨g,off,cap,jE,e',hb',hg,rest⟩
    ·simp[hn,bq] at hbb
    ·simp[hn,bq] at hbb
    ·have hlt:g<w.heap.size:=(AQ.1 hg).1
     simp[e',bq] at hbb
     omega
 | mp fz e n l=>
  obtain⟨h0,g,es,clock,e',hg,he,hf⟩:=ho
  have hlt:g<w.heap.size:=(AQ.1 hg).1
  refine⟨h0,g,es,clock,e',(hs.bq g hlt (hb g (by simp[e',bq]))).trans hg,he.step hs hY hX,fun hz hx=>?_⟩
  rcases hX g hx with hx | hx
  ·exact hf hz hx
  ·omega
 | cu l=>
  obtain⟨g,ys,ty,e',hg,hl,hf⟩:=ho
  have hlt:g<w.heap.size:=(AQ.1 hg).1
  refine⟨g,ys,ty,e',(hs.bq g hlt (hb g (by simp[e',bq]))).trans hg,hl.step hs hY hX hρ,fun hx=>?_⟩
  rcases hX g hx with hx | hx
  ·exact hf hx
  ·omega
 | dead=>trivial
 | fresh=>trivial
theorem ct.one{h:Value}{o:O}(ho:ct w X ρ h o)(hl:o.live=true):h.oneCell'=true∨∃hole e e2 n l,o=.rr hole e e2 n l:=by
 cases o with
 | box l=>obtain⟨g,ys,ty,e,hg,_⟩:=ho;subst e;exact .inl rfl
 | row fz e n l=>obtain⟨_,_,⟨xs,hown,_⟩,_⟩:=ho;exact .inl hown.one
 | mp fz e n l=>obtain⟨_,g,es,clock,e',_⟩:=ho;subst e';exact .inl rfl
 | rr hole e e2 n l=>exact .inr ⟨_,_,_,_,_,rfl⟩
 | cu l=>simp[O.live] at hl
 | fwd k=>simp[O.live] at hl
 | dead=>simp[O.live] at hl
 | fresh=>simp[O.live] at hl
theorem ct.lt{h:Value}{o:O}(ho:ct w X ρ h o)(hl:o.live=true){b:Nat}(hb:de h b):b<w.heap.size:=by
 rcases ho.one hl with h1 | ⟨_,_,_,_,_,rfl⟩
 case inr=>exact jb.lt ho hb
 replace hb:=hb.one h1
 cases o with
 | rr hole e e2 n l=>obtain⟨_,v,vs,xs,rfl,_⟩:=ho;cases h1
 | fwd k=>simp[O.live] at hl
 | box l=>
  obtain⟨g,ys,ty,e,hg,_⟩:=ho
  simp[e,bq] at hb
  exact hb▸(AQ.1 hg).1
 | row fz e n l=>
  obtain⟨_,_,⟨xs,hown,_⟩,_⟩:=ho
  rcases hown.2 with⟨hn | ⟨a,hn⟩,_⟩ | ⟨g,off,cap,jE,e',hb',hg,rest⟩
  ·simp[hn,bq] at hb
  ·simp[hn,bq] at hb
  ·simp[e',bq] at hb
   exact hb.2▸(AQ.1 hg).1
 | mp fz e n l=>
  obtain⟨_,g,es,clock,e',hg,_⟩:=ho
  simp[e',bq] at hb
  exact hb▸(AQ.1 hg).1
 | cu l=>simp[O.live] at hl
 | dead=>simp[O.live] at hl
 | fresh=>simp[O.live] at hl
end
theorem Has.ki{ae:List O}{ρ:nT}{k b:Nat}(h:Has ae ρ k b):BM ae ρ b:=⟨k,h⟩
theorem XB.ki{ae:List O}{ρ:nT}{Xc:Nat→Prop}{b:Nat}(h:BM ae ρ b):XB ae ρ Xc b:=.inl h
section
variable {w0 w w':World} {F Xc:Nat→Prop} {ρ0:cn} {ρ ρ':nT} {st:St} {a:Act}
theorem Rel.lt(h:Rel w0 F Xc ρ0 ρ st a w){b:Nat}(hb:BM st.ae ρ b):b<w.heap.size:=by
 obtain⟨k,o,v,h1,h2,h3,h4⟩:=hb
 have:=h.ae k o h1
 cases o with
 | dead=>simp[O.live] at h2
 | cu l=>simp[O.live] at h2
 | fresh=>simp[O.live] at h2
 | fwd k=>simp[O.live] at h2
 | rr hole e e2 n l=>obtain⟨v',e1,e2⟩:=this;rw[h3] at e1;cases e1;exact ct.lt (o:=.rr hole e _ n l) e2 h2 h4
 | box l=>obtain⟨v',e1,e2⟩:=this;rw[h3] at e1;cases e1;exact e2.lt h2 h4
 | row fz e n l=>obtain⟨v',e1,e2⟩:=this;rw[h3] at e1;cases e1;exact e2.lt h2 h4
 | mp fz e n l=>obtain⟨v',e1,e2⟩:=this;rw[h3] at e1;cases e1;exact e2.lt h2 h4
def St.put(st:St)(dst:Option Nat)(d:D):St:=match dst with
 | some i=>{ st with env:=st.env.set i d }
 | none=>st
theorem Rel.put(h:Rel w0 F Xc ρ0 ρ st a w)(dst:Option Nat){d:D}{v:Value}(hd:ay w (XB st.ae ρ Xc) ρ d v):Rel w0 F Xc ρ0 ρ (st.put dst d) (a.put dst v) w:=by
 cases dst with
 | none=>exact h
 | some j=>
  refine⟨by simpa[St.put,Act.put] using h.len,fun i d' y h1 h2=>?_,h.ae,h.sep,h.own,h.par,h.defers,h.frame,h.jo,h.xc,h.ext⟩
  simp only[St.put,Act.put,qU,Array.getElem?_setIfInBounds] at h1 h2
  have hlen:=h.len
  by_cases hij:j=i
  ·subst hij
   simp only[eP] at h1 h2
   split at h1
   ·rename_i hl
    rw[aC (by omega)] at h2
    cases h1;cases h2
    exact hd
   ·cases h1
  ·simp only[hij,iK] at h1 h2
   exact h.env i d' y h1 h2
theorem Rel.world(h:Rel w0 F Xc ρ0 ρ st a w)(hs:cf (fun _=>False) w w'):Rel w0 F Xc ρ0 ρ st a w':=by
 refine⟨h.len,fun i d y h1 h2=>(h.env i d y h1 h2).step hs (fun _ h=>h.elim) (fun _ hb=>.inl hb) (.refl _),fun k o ho=>?_,h.sep,h.own,h.par,h.defers,?_,h.jo,h.xc,fun p hp=>(h.ext p hp).step hs (fun _ h=>h.elim) (fun _ hb=>.inl hb) (.refl _)⟩
 ·have:=h.ae k o ho
  cases o with
  | dead=>trivial
  | fresh=>exact this
  | box l=>obtain⟨v,e1,e2⟩:=this;exact⟨v,e1,e2.step hs (fun _ h=>h.elim) (fun _ hb=>.inl hb) (.refl _) (fun _ _ h=>h)⟩
  | row fz e n l=>obtain⟨v,e1,e2⟩:=this;exact⟨v,e1,e2.step hs (fun _ h=>h.elim) (fun _ hb=>.inl hb) (.refl _) (fun _ _ h=>h)⟩
  | mp fz e n l=>obtain⟨v,e1,e2⟩:=this;exact⟨v,e1,e2.step hs (fun _ h=>h.elim) (fun _ hb=>.inl hb) (.refl _) (fun _ _ h=>h)⟩
  | cu l=>obtain⟨v,e1,e2⟩:=this;exact⟨v,e1,e2.step hs (fun _ h=>h.elim) (fun _ hb=>.inl hb) (.refl _) (fun _ _ h=>h)⟩
  | rr hole e e2 n l=>obtain⟨v,e1,e2⟩:=this;exact⟨v,e1,ct.step (o:=.rr hole e _ n l) e2 hs (fun _ h=>h.elim) (fun _ hb=>.inl hb) (.refl _) (fun _ _ h=>h)⟩
  | fwd k=>exact this
 ·exact h.frame.trans (hs.mono (fun _ h=>h.elim))
theorem Rel.change{Y:Nat→Prop}(h:Rel w0 F Xc ρ0 ρ st a w)(objs':List O)(ρ':nT)(K:Nat→Prop)(hs:cf Y w w')
 (bw:∀j,¬K j→objs'[j]?=st.ae[j]?∧ρ' j=ρ j) (hρ:fu ρ ρ')
 (hY:∀b,Y b→∃j,K j∧Has st.ae ρ j b)
 (hnew:∀j b,K j→Has objs' ρ' j b→(∃j',K j'∧Has st.ae ρ j' b)∨w.heap.size≤b)
 (hsep:∀j j' b,K j→K j'→Has objs' ρ' j b→Has objs' ρ' j' b→j=j')
 (hok:(∀b,XB objs' ρ' Xc b→XB st.ae ρ Xc b∨w.heap.size≤b)→∀j o,K j→objs'[j]?=some o→Ut w' (XB objs' ρ' Xc) ρ' j o)
 (hpar:∀j,j<st.np→ρ' j=ρ j):Rel w0 F Xc ρ0 ρ' { st with ae:=objs' } a w':=by
 have hYX:∀b,Y b→XB st.ae ρ Xc b:=fun b hb=>by
  obtain⟨j,_,hj⟩:=hY b hb
  exact .inl ⟨j,hj⟩
 have hHas:∀j b,¬K j→Has objs' ρ' j b→Has st.ae ρ j b:=fun j b hj hh=>by
  obtain⟨o,v,h1,h2,h3,h4⟩:=hh
  obtain⟨e1,e2⟩:=bw j hj
  exact⟨o,v,e1▸h1,h2,e2▸h3,h4⟩
 have hX:∀b,XB objs' ρ' Xc b→XB st.ae ρ Xc b∨w.heap.size≤b:=fun b hb=>by
  rcases hb with⟨j,hj⟩ | hb
  ·by_cases hK:K j
   ·rcases hnew j b hK hj with⟨j',_,hh⟩ | hh
    ·exact .inl (.inl ⟨j',hh⟩)
    ·exact .inr hh
   ·exact .inl (.inl ⟨j,hHas j b hK hj⟩)
  ·exact .inl (.inr hb)
 refine⟨h.len,fun i d y h1 h2=>(h.env i d y h1 h2).step hs hYX hX hρ,fun j o ho=>?_,fun j j' b hj hj'=>?_,fun b hb=>?_,fun k hk=>(hpar k hk).trans (h.par k hk),h.defers,?_,h.jo,fun b hb hx=>?_,fun p hp=>(h.ext p hp).step hs hYX hX hρ⟩
 ·by_cases hK:K j
  ·exact hok hX j o hK ho
  ·obtain⟨e1,e2⟩:=bw j hK
   have ho':st.ae[j]?=some o:=e1▸ho
   have:=h.ae j o ho'
   cases o with
   | dead=>trivial
   | fresh=>exact e2.trans this
   | box l=>
    obtain⟨v,f1,f2⟩:=this
    refine⟨v,hρ _ _ f1,f2.step hs hYX hX hρ fun b hb hy=>?_⟩
    obtain⟨j',hK',hj'⟩:=hY b hy
    have:=h.sep j j' b ⟨_,v,ho',rfl,f1,hb⟩ hj'
    exact hK (this▸hK')
   | row fz e n l=>
    obtain⟨v,f1,f2⟩:=this
    refine⟨v,hρ _ _ f1,f2.step hs hYX hX hρ fun b hb hy=>?_⟩
    obtain⟨j',hK',hj'⟩:=hY b hy
    cases fz with
    | false=>
     have:=h.sep j j' b ⟨_,v,ho',rfl,f1,hb⟩ hj'
     exact hK (this▸hK')
    | true=>exact f2.2.2.2 rfl b (hb.one (by obtain⟨xs,hown,_⟩:=f2.2.2.1;exact hown.one)) (.inl ⟨j',hj'⟩)
   | mp fz e n l=>
    obtain⟨v,f1,f2⟩:=this
    refine⟨v,hρ _ _ f1,f2.step hs hYX hX hρ fun b hb hy=>?_⟩
    obtain⟨j',hK',hj'⟩:=hY b hy
    cases fz with
    | false=>
     have:=h.sep j j' b ⟨_,v,ho',rfl,f1,hb⟩ hj'
     exact hK (this▸hK')
    | true=>
     obtain⟨_,g,es,clock,e',hg,_,hf⟩:=f2
     replace hb:=hb.one (by rw[e'];rfl)
     simp[e',bq] at hb
     subst hb
     exact hf rfl (.inl ⟨j',hj'⟩)
   | cu l=>
    obtain⟨v,f1,f2⟩:=this
    refine⟨v,hρ _ _ f1,f2.step hs hYX hX hρ fun b hb hy=>?_⟩
    obtain⟨j',hK',hj'⟩:=hY b hy
    obtain⟨g,ys,ty,e',hg,_,hf⟩:=f2
    replace hb:=hb.one (by rw[e'];rfl)
    simp[e',bq] at hb
    subst hb
    exact hf (.inl ⟨j',hj'⟩)
   | rr hole e e2 n l=>
    obtain⟨v,f1,f2⟩:=this
    refine⟨v,hρ _ _ f1,ct.step (o:=.rr hole e e2 n l) (ρ:=ρ) f2 hs hYX hX hρ fun b hb hy=>?_⟩
    obtain⟨j',hK',hj'⟩:=hY b hy
    have:=h.sep j j' b ⟨_,v,ho',rfl,f1,hb⟩ hj'
    exact hK (this▸hK')
   | fwd k=>
    obtain⟨v,f1,vs,vs',g1,g2,g3⟩:=this
    exact⟨v,hρ _ _ f1,vs,vs',g1,hρ _ _ g2,g3⟩
 ·by_cases hK:K j <;> by_cases hK':K j'
  ·exact hsep j j' b hK hK' hj hj'
  ·exfalso
   have h2:=hHas j' b hK' hj'
   rcases hnew j b hK hj with⟨j'',hK'',hh⟩ | hh
   ·have:=h.sep j'' j' b hh h2
    exact hK' (this▸hK'')
   ·have:=h.lt h2.ki
    omega
  ·exfalso
   have h2:=hHas j b hK hj
   rcases hnew j' b hK' hj' with⟨j'',hK'',hh⟩ | hh
   ·have:=h.sep j'' j b hh h2
    exact hK (this▸hK'')
   ·have:=h.lt h2.ki
    omega
  ·exact h.sep j j' b (hHas j b hK hj) (hHas j' b hK' hj')
 ·obtain⟨j,hj⟩:=hb
  by_cases hK:K j
  ·rcases hnew j b hK hj with⟨j',_,hh⟩ | hh
   ·exact h.own b ⟨j',hh⟩
   ·exact .inl (IG h.frame.size hh)
  ·exact h.own b ⟨j,hHas j b hK hj⟩
 ·refine h.frame.after hs fun b hb hlt=>?_
  obtain⟨j,_,hj⟩:=hY b hb
  rcases h.own b ⟨j,hj⟩ with hh | hh
  ·omega
  ·exact hh
 ·obtain⟨j,hj⟩:=hb
  have hlt:=h.jo b hx
  have hsz:=h.frame.size
  by_cases hK:K j
  ·rcases hnew j b hK hj with⟨j',_,hh⟩ | hh
   ·exact h.xc b ⟨j',hh⟩ hx
   ·omega
  ·exact h.xc b ⟨j,hHas j b hK hj⟩ hx
def en:Value→D
 | .agg cs=>if cs.all (fun v=>v.oneCell') then .s (.agg (cs.toList.map fun v=>.t (.v v))) else D.top
 | .tuple _=>D.top
 | v=>.s (.c (.t (.v v)))
def ev(st:St):Operand→D
 | .tmp t=>st.env.getD t D.top
 | .const v=>en v
 | .global _=>D.top
 | .func f=>.s (.c (.t (.v (.func (.func f) #[] #[]))))
theorem ay.top_{X:Nat→Prop}(y:Value):ay w X ρ D.top y:=.inl rfl
theorem ay.one{X:Nat→Prop}{c:C}{y:Value}(h:ia w X ρ c y)(h1:y.oneCell'=true):ay w X ρ (.s (.c c)) y:=.inr ⟨h,h1⟩
theorem ay.val{X:Nat→Prop}{y:Value}(h1:y.oneCell'=true):ay w X ρ (.s (.c (.t (.v y)))) y:=.one (.v y) h1
theorem ay.en{X:Nat→Prop}(v:Value):ay w X ρ (en v) v:=by
 unfold Eng.en
 split
 ·rename_i cs
  split
  ·rename_i hall
   refine⟨cs,rfl,by simp,fun i c y h1 h2=>?_⟩
   rw[eW,h2] at h1
   cases h1
   rw[Array.all_eq_true'] at hall
   exact .inr ⟨.v y,hall y (by rw[←Array.mem_toList_iff];exact mS h2)⟩
  ·exact .top_ _
 ·exact .top_ _
 ·rename_i h1 h2
  refine .val ?_
  cases v <;> first | rfl | exact(h1 _ rfl).elim | exact(h2 _ rfl).elim
theorem Rel.ev(h:Rel w0 F Xc ρ0 ρ st a w)(x:Operand):ay w (XB st.ae ρ Xc) ρ (ev st x) (a.eval x):=by
 cases x with
 | tmp t=>
  simp only[Eng.ev,Act.eval]
  rcases ZM t st.env.length with hl | hl
  ·have hl':t<a.tmps.size:=by rw[h.len];exact hl
   rw[jY,dG hl]
   rw[MN,vL hl']
   exact h.env t _ _ (dG hl) (vL hl')
  ·rw[jY,vK hl]
   exact .top_ _
 | const v=>exact .en v
 | global g=>exact .top_ _
 | func f=>exact .val rfl
end
def ob{α R:Type}(m:Option α)(k:α→Option R):Option R:=match m with
 | some a=>k a
 | none=>none
theorem bK{α R:Type}{m:Option α}{k:α→Option R}{r:R}(h:ob m k=some r):∃a,m=some a∧k a=some r:=by
 cases m with
 | none=>cases h
 | some a=>exact⟨a,rfl,h⟩
@[irreducible] def wr(k:IntKind)(n:Int):Int:=k.wrap n
@[irreducible] def cV(a b:Int):Bool:=a==b
@[irreducible] def nL(a b:Int):Bool:=decide (a<b)
@[irreducible] def BR(a b:Int):Bool:=decide (a≤b)
@[irreducible] def bY(a b:Int):Int:=a+b
@[irreducible] def tX(a b:Int):Int:=a-b
@[irreducible] def vE(a b:Int):Int:=a*b
@[irreducible] def BN(a b:Int):Int:=a.tdiv b
@[irreducible] def uK(a b:Int):Int:=a.tmod b
@[irreducible] def nz(b:Int):Option Int:=if b=0 then none else some b
@[irreducible] def nn(b:Int):Option Int:=if b<0 then none else some b
@[irreducible] def Ux(k:IntKind)(x y:Int):Int:=x*2 ^ (min y.toNat k.bits)
@[irreducible] def Uy(k:IntKind)(x y:Int):Int:=x.fdiv (2 ^ (min y.toNat k.bits))
@[irreducible] def JH(op:BinOp)(k:IntKind)(x y:Int):Int:=match op with
 | .and=>k.wrap ((BitVec.ofInt k.bits x &&& BitVec.ofInt k.bits y).toNat:Int)
 | .or=>k.wrap ((BitVec.ofInt k.bits x ||| BitVec.ofInt k.bits y).toNat:Int)
 | .xor=>k.wrap ((BitVec.ofInt k.bits x ^^^ BitVec.ofInt k.bits y).toNat:Int)
 | _=>k.wrap ((BitVec.ofInt k.bits x &&& ~~~ BitVec.ofInt k.bits y).toNat:Int)
@[irreducible] def Ob(a b:ByteArray):Bool:=a.toList==b.toList
@[irreducible] def Oe(a b:ByteArray):Bool:=Op.bytesLess a.toList b.toList
@[irreducible] def Uz(a b:ByteArray):Option ByteArray:=if ((a.size+b.size:Nat):Int) > IntKind.i64.max then none else some (a++b)
@[irreducible] def Of(a:ByteArray):Int:=a.size
@[irreducible] def Va(s:ByteArray)(lo hi:Int):Option ByteArray:=if 0≤hi∧hi≤s.size∧0≤lo∧lo≤hi then some (s.extract lo.toNat hi.toNat) else none
@[irreducible] def Is(a b:Bool):Bool:=a==b
def dI(k:IntKind)(n:Int):D:=.s (.c (.t (.v (.int k n))))
def dB(b:Bool):D:=.s (.c (.t (.v (.bool b))))
def dS(s:ByteArray):D:=.s (.c (.t (.v (.string s))))
def T.int?(k:IntKind):T→Option Int
 | .v (.int k' n)=>if k'=k then some n else none
 | _=>none
def T.bool?:T→Option Bool
 | .v (.bool b)=>some b
 | _=>none
def T.ik:T→Option ByteArray
 | .v (.string s)=>some s
 | _=>none
def T.il(k:Nat):T→Option (List T)
 | .v (.slice none 0 0)=>if k<1000000000 then some [] else none
 | .sl k' l=>if k'=k then some l else none
 | _=>none
def T.kf(k:Nat)(x:T):Option (List T):=if k<1000000000 then x.il k else none
theorem T.fj{k:Nat}{x:T}{l:List T}(h:x.kf k=some l):k<1000000000∧x.il k=some l:=by
 unfold T.kf at h
 split at h
 ·rename_i hk;exact⟨hk,h⟩
 ·cases h
section
variable {R:Type}
def AI(d:D)(f:C→Option R):Option R:=match d with
 | .s (.c x)=>f x
 | _=>none
def Q9(d:D)(f:T→Option R):Option R:=match d with
 | .s (.c (.t x))=>f x
 | _=>none
def RE(k:IntKind)(d:D)(f:Int→Option R):Option R:=Q9 d fun x=>ob (x.int? k) f
def RG(d:D)(f:Bool→Option R):Option R:=Q9 d fun x=>ob x.bool? f
def WL(d:D)(f:ByteArray→Option R):Option R:=Q9 d fun x=>ob x.ik f
variable {w:World} {X:Nat→Prop} {ρ:nT} {d:D} {y:Value} {r:R}
theorem UJ{f:T→Option R}(h:ay w X ρ d y)(hf:Q9 d f=some r):∃x,d=.s (.c (.t x))∧Rd w X x y∧y.oneCell'=true∧f x=some r:=by
 unfold Q9 at hf
 split at hf
 ·rename_i x
  rcases h with h | ⟨h1,h2⟩
  ·cases h
  ·exact⟨x,rfl,h1,h2,hf⟩
 ·cases hf
theorem vN{f:C→Option R}(h:ay w X ρ d y)(hf:AI d f=some r):∃x,d=.s (.c x)∧ch w X ρ x y∧f x=some r:=by
 unfold AI at hf
 split at hf
 ·rename_i x
  exact⟨x,rfl,h,hf⟩
 ·cases hf
theorem Ad{k:IntKind}{x:T}{n:Int}(h:Rd w X x y)(hx:x.int? k=some n):y=.int k n:=by
 unfold T.int? at hx
 split at hx
 ·split at hx
  ·rename_i hk;cases hx;subst hk;exact h.cq
  ·cases hx
 ·cases hx
theorem UK{x:T}{b:Bool}(h:Rd w X x y)(hx:x.bool?=some b):y=.bool b:=by
 unfold T.bool? at hx
 split at hx
 ·cases hx;exact h.cq
 ·cases hx
theorem Ae{x:T}{s:ByteArray}(h:Rd w X x y)(hx:x.ik=some s):y=.string s:=by
 unfold T.ik at hx
 split at hx
 ·cases hx;exact h.cq
 ·cases hx
theorem AV{k:IntKind}{f:Int→Option R}(h:ay w X ρ d y)(hf:RE k d f=some r):∃n,y=.int k n∧f n=some r:=by
 obtain⟨x,_,hx,_,hf⟩:=UJ h hf
 obtain⟨n,hn,hf⟩:=bK hf
 exact⟨n,Ad hx hn,hf⟩
theorem B8{f:Bool→Option R}(h:ay w X ρ d y)(hf:RG d f=some r):∃n,y=.bool n∧f n=some r:=by
 obtain⟨x,_,hx,_,hf⟩:=UJ h hf
 obtain⟨n,hn,hf⟩:=bK hf
 exact⟨n,UK hx hn,hf⟩
theorem DC{f:ByteArray→Option R}(h:ay w X ρ d y)(hf:WL d f=some r):∃n,y=.string n∧f n=some r:=by
 obtain⟨x,_,hx,_,hf⟩:=UJ h hf
 obtain⟨n,hn,hf⟩:=bK hf
 exact⟨n,Ae hx hn,hf⟩
theorem ay.int(k:IntKind)(n:Int):ay w X ρ (dI k n) (.int k n):=.val rfl
theorem ay.bool(b:Bool):ay w X ρ (dB b) (.bool b):=.val rfl
theorem ay.str(s:ByteArray):ay w X ρ (dS s) (.string s):=.val rfl
end
section
variable {R:Type}
def vO(op:BinOp)(k:IntKind)(a b:Int)(f:D→Option R):Option R:=match op with
 | .add=>f (dI k (wr k (bY a b)))
 | .sub=>f (dI k (wr k (tX a b)))
 | .mul=>f (dI k (wr k (vE a b)))
 | .quo=>ob (nz b) fun b=>f (dI k (wr k (BN a b)))
 | .rem=>ob (nz b) fun b=>f (dI k (uK a b))
 | .and=>f (dI k (JH .and k a b))
 | .or=>f (dI k (JH .or k a b))
 | .xor=>f (dI k (JH .xor k a b))
 | .andNot=>f (dI k (JH .andNot k a b))
 | .eql=>f (dB (cV a b))
 | .neq=>f (dB (!cV a b))
 | .lss=>f (dB (nL a b))
 | .leq=>f (dB (BR a b))
 | .gtr=>f (dB (nL b a))
 | .geq=>f (dB (BR b a))
 | _=>none
def SD(op:BinOp)(a b:ByteArray)(f:D→Option R):Option R:=match op with
 | .add=>ob (Uz a b) fun s=>f (dS s)
 | .eql=>f (dB (Ob a b))
 | .neq=>f (dB (!Ob a b))
 | .lss=>f (dB (Oe a b))
 | .leq=>f (dB (Oe a b||Ob a b))
 | .gtr=>f (dB (!(Oe a b||Ob a b)))
 | .geq=>f (dB (!Oe a b))
 | _=>none
def GW(op:BinOp)(k:IntKind)(a b:Int)(f:D→Option R):Option R:=match op with
 | .shl=>ob (nn b) fun b=>f (dI k (wr k (Ux k a b)))
 | .shr=>ob (nn b) fun b=>f (dI k (Uy k a b))
 | _=>none
def NZ:BinOp→Bool
 | .shl | .shr=>true
 | _=>false
variable (P:Program)
def Fj(op:BinOp)(ty yty:TypeId)(x y:D)(f:D→Option R):Option R:=
 match P.underlying ty with
 | some (.int k)=>
  if NZ op then
   match P.underlying yty with
   | some (.int k')=>RE k x fun a=>RE k' y fun b=>GW op k a b f
   | _=>none
  else RE k x fun a=>RE k y fun b=>vO op k a b f
 | some .string=>WL x fun a=>WL y fun b=>SD op a b f
 | some .bool=>if op=.eql then RG x fun a=>RG y fun b=>f (dB (Is a b)) else if op=.neq then RG x fun a=>RG y fun b=>f (dB (!Is a b)) else none
 | _=>none
variable {P} {w:World} {X:Nat→Prop} {ρ:nT} {r:R}
theorem Iu{op:BinOp}{k:IntKind}{a b:Int}{f:D→Option R}(hop:NZ op=false)(h:vO op k a b f=some r)(t:TypeId):
 ∃d v,(binOp op t (.int k a) (.int k b)).run P w=.ok v w∧ay w X ρ d v∧f d=some r:=by
 have hI:∀n,ay w X ρ (dI k n) (.int k n):=fun n=>.int k n
 have hB:∀n,ay w X ρ (dB n) (.bool n):=fun n=>.bool n
 cases op
 case shl=>simp[NZ] at hop
 case shr=>simp[NZ] at hop
 case add=>exact⟨_,_,by simp only[binOp,vM,BP,iK,Op.intArith];rfl,hI _,by simpa only[vO,wr,bY] using h⟩
 case sub=>exact⟨_,_,by simp only[binOp,vM,BP,iK,Op.intArith];rfl,hI _,by simpa only[vO,wr,tX] using h⟩
 case mul=>exact⟨_,_,by simp only[binOp,vM,BP,iK,Op.intArith];rfl,hI _,by simpa only[vO,wr,vE] using h⟩
 case and=>exact⟨_,_,by simp only[binOp,vM,BP,iK,Op.intBits];rfl,hI _,by simpa only[vO,JH] using h⟩
 case or=>exact⟨_,_,by simp only[binOp,vM,BP,iK,Op.intBits];rfl,hI _,by simpa only[vO,JH] using h⟩
 case xor=>exact⟨_,_,by simp only[binOp,vM,BP,iK,Op.intBits];rfl,hI _,by simpa only[vO,JH] using h⟩
 case andNot=>exact⟨_,_,by simp only[binOp,vM,BP,iK,Op.intBits];rfl,hI _,by simpa only[vO,JH] using h⟩
 case eql=>exact⟨_,_,by simp only[binOp,vM,BP,iK,Op.intCmp];rfl,hB _,by simpa only[vO,cV] using h⟩
 case neq=>exact⟨_,.bool (!(a==b)),by simp only[binOp,vM,BP,iK,Op.intCmp];rfl,hB _,by simpa only[vO,cV] using h⟩
 case lss=>exact⟨_,_,by simp only[binOp,vM,BP,iK,Op.intCmp];rfl,hB _,by simpa only[vO,nL] using h⟩
 case leq=>exact⟨_,_,by simp only[binOp,vM,BP,iK,Op.intCmp];rfl,hB _,by simpa only[vO,BR] using h⟩
 case gtr=>exact⟨_,_,by simp only[binOp,vM,BP,iK,Op.intCmp];rfl,hB _,by simpa only[vO,nL] using h⟩
 case geq=>exact⟨_,_,by simp only[binOp,vM,BP,iK,Op.intCmp];rfl,hB _,by simpa only[vO,BR] using h⟩
 all_goals
  simp only[vO] at h
  obtain⟨b',hb,h⟩:=bK h
  unfold nz at hb
  split at hb
  ·cases hb
  ·rename_i hne
   cases hb
   refine⟨_,_,?_,hI _,h⟩
   simp only[binOp,vM,BP,iK,Op.intDiv,hne,wr,BN,uK]
   rfl
theorem Af{op:BinOp}{k k':IntKind}{a b:Int}{f:D→Option R}(h:GW op k a b f=some r)(t:TypeId):
 ∃d v,(binOp op t (.int k a) (.int k' b)).run P w=.ok v w∧ay w X ρ d v∧f d=some r:=by
 cases op <;> simp only[GW] at h <;> first
  | (cases h;done)
  | (obtain⟨b',hb,h⟩:=bK h
     unfold nn at hb
     split at hb
     ·cases hb
     ·rename_i hne
      cases hb
      refine⟨_,_,?_,.int k _,h⟩
      simp only[binOp,Op.shift,hne,iK,wr,Ux,Uy]
      rfl)
theorem Iv{op:BinOp}{a b:ByteArray}{f:D→Option R}(h:SD op a b f=some r)(t:TypeId):
 ∃d v,(binOp op t (.string a) (.string b)).run P w=.ok v w∧ay w X ρ d v∧f d=some r:=by
 have hB:∀n,ay w X ρ (dB n) (.bool n):=fun n=>.bool n
 cases op <;> simp only[SD] at h <;> first
  | (cases h;done)
  | (refine⟨_,_,?_,hB _,h⟩;simp[binOp,Op.stringOp,Ob,Oe];done)
  | (obtain⟨b',hb,h⟩:=bK h
     unfold Uz at hb
     split at hb
     ·cases hb
     ·rename_i hne
      cases hb
      refine⟨_,_,?_,.str _,h⟩
      simp only[binOp,Op.stringOp,hne,iK,iL])
theorem FC{op:BinOp}{t:TypeId}{x y:Operand}{a b:Value}(h1:∀cs,a≠.agg cs)(h2:a≠.nilIface):(eqGuard op t x y a b).run P w=.ok () w:=by
 unfold eqGuard
 cases a <;> first | exact(h2 rfl).elim | exact(h1 _ rfl).elim | (cases op <;> rfl)
theorem FD{ty:TypeId}(hu:P.underlying ty=some .bool)(a b:Bool):(Op.equal ty (.bool a) (.bool b)).run P w=.ok (a==b) w:=by
 have h:∀d:Nat,(Op.equalIn (d+1) ty (.bool a) (.bool b)).run P w=.ok (a==b) w:=fun d=>by
  simp only[Op.equalIn,bO,qT hu,dM];rfl
 exact h 9999
theorem Og{op:BinOp}{ty yty:TypeId}{x y:D}{xo yo:Operand}{vx vy:Value}{f:D→Option R}(hx:ay w X ρ x vx)(hy:ay w X ρ y vy)(h:Fj P op ty yty x y f=some r):
 ∃d v,(do eqGuard op ty xo yo vx vy;binOp op ty vx vy:Sem Value).run P w=.ok v w∧ay w X ρ d v∧f d=some r:=by
 have key:∀{vx vy:Value} {v:Value},(∀cs,vx≠.agg cs)→vx≠.nilIface→(binOp op ty vx vy).run P w=.ok v w→(do eqGuard op ty xo yo vx vy;binOp op ty vx vy:Sem Value).run P w=.ok v w:=by
  intro vx vy v h1 h2 h3
  simp only[bO,FC h1 h2,dM,h3]
 unfold Fj at h
 split at h
 ·split at h
  ·split at h
   ·obtain⟨a,rfl,h⟩:=AV hx h
    obtain⟨b,rfl,h⟩:=AV hy h
    obtain⟨d,v,h1,h2,h3⟩:=Af (P:=P) (w:=w) (X:=X) (ρ:=ρ) h ty
    exact⟨d,v,key (by simp) (by simp) h1,h2,h3⟩
   ·cases h
  ·rename_i hs
   obtain⟨a,rfl,h⟩:=AV hx h
   obtain⟨b,rfl,h⟩:=AV hy h
   obtain⟨d,v,h1,h2,h3⟩:=Iu (P:=P) (w:=w) (X:=X) (ρ:=ρ) (by simpa using hs) h ty
   exact⟨d,v,key (by simp) (by simp) h1,h2,h3⟩
 ·obtain⟨a,rfl,h⟩:=DC hx h
  obtain⟨b,rfl,h⟩:=DC hy h
  obtain⟨d,v,h1,h2,h3⟩:=Iv (P:=P) (w:=w) (X:=X) (ρ:=ρ) h ty
  exact⟨d,v,key (by simp) (by simp) h1,h2,h3⟩
 ·rename_i hu
  split at h
  ·rename_i ho
   subst ho
   obtain⟨a,rfl,h⟩:=B8 hx h
   obtain⟨b,rfl,h⟩:=B8 hy h
   refine⟨_,_,key (v:=.bool (a==b)) (by simp) (by simp) ?_,.bool _,by simpa only[Is] using h⟩
   show (do pure (.bool (←Op.equal ty (.bool a) (.bool b))):Sem Value).run P w=_
   simp only[bO,FD hu,dM,iL]
  ·split at h
   ·rename_i ho
    subst ho
    obtain⟨a,rfl,h⟩:=B8 hx h
    obtain⟨b,rfl,h⟩:=B8 hy h
    refine⟨_,_,key (v:=.bool (!(a==b))) (by simp) (by simp) ?_,.bool _,by simpa only[Is] using h⟩
    show (do pure (.bool (!(←Op.equal ty (.bool a) (.bool b)))):Sem Value).run P w=_
    simp only[bO,FD hu,dM,iL]
   ·cases h
 ·cases h
def Sf(op:UnOp)(ty:TypeId)(x:D)(f:D→Option R):Option R:=
 match op,P.underlying ty with
 | .neg,some (.int k)=>RE k x fun a=>f (dI k (wr k (tX 0 a)))
 | .xor,some (.int k)=>RE k x fun a=>f (dI k (JH .xor k (if k.signed then -1 else k.max) a))
 | .not,_=>RG x fun a=>f (dB (!a))
 | _,_=>none
theorem Sg{op:UnOp}{ty:TypeId}{x:D}{vx:Value}{f:D→Option R}(hx:ay w X ρ x vx)(h:Sf (P:=P) op ty x f=some r):
 ∃d v,(Op.unary op vx).run P w=.ok v w∧ay w X ρ d v∧f d=some r:=by
 unfold Sf at h
 split at h
 ·obtain⟨a,rfl,h⟩:=AV hx h
  exact⟨_,_,by simp[Op.unary,Op.intArith,wr,tX],.int _ _,h⟩
 ·obtain⟨a,rfl,h⟩:=AV hx h
  exact⟨_,_,by simp[Op.unary,Op.intBits,JH],.int _ _,h⟩
 ·obtain⟨a,rfl,h⟩:=B8 hx h
  exact⟨_,_,by simp[Op.unary],.bool _,h⟩
 ·cases h
end
section
variable {R:Type} (P:Program)
def MS(t:TypeId):Option Nat:=(P.info? t).map (·.size)
def RH(t:TypeId):Option Bool:=match P.underlying t with
 | some (.struct _) | some (.array _ _)=>some true
 | some _=>some false
 | none=>none
variable {P} {w:World}
theorem iT{t:TypeId}{n:Nat}(h:MS P t=some n)(w:World):(sizeOf t).run P w=.ok n w:=by
 unfold MS at h
 cases hi:P.info? t with
 | none=>simp[hi] at h
 | some i=>simp only[hi,fH,cC] at h;simp[sizeOf,typeInfo,hi,h]
theorem SF{t:TypeId}{b:Bool}(h:RH P t=some b)(w:World):(isAgg t).run P w=.ok b w:=by
 unfold RH at h
 unfold isAgg
 cases hu:P.underlying t with
 | none=>simp[hu] at h
 | some d=>
  rw[hu] at h
  simp only[bO,qT hu,dM]
  cases d <;> simp at h <;> subst h <;> rfl
end
def FE:D→Option (List C)
 | .s (.c .top)=>none
 | .s (.c c)=>some [c]
 | .s (.agg l)=>some l
 | .ee _=>none
section
variable {w:World} {X:Nat→Prop} {ρ:nT}
theorem SG{y:Value}(h:y.oneCell'=true):y.cells=#[y]:=by
 cases y <;> first | rfl | simp[Value.oneCell'] at h
theorem CQ{d:D}{y:Value}{cs:List C}(h:ay w X ρ d y)(hd:FE d=some cs):bu w X ρ cs y.cells.toList:=by
 unfold FE at hd
 split at hd
 ·cases hd
 ·rename_i c hc
  cases hd
  rcases h with h | ⟨h1,h2⟩
  ·exact(hc h).elim
  ·rw[SG h2]
   refine⟨rfl,fun i c' y' e1 e2=>?_⟩
   cases i with
   | zero=>simp at e1 e2;subst e1;subst e2;exact .inr ⟨h1,h2⟩
   | succ i=>simp at e1
 ·cases hd
  obtain⟨cs',rfl,hl⟩:=h
  exact hl
 ·cases hd
theorem bu.drop{l:List C}{ys:List Value}(h:bu w X ρ l ys)(n:Nat):bu w X ρ (l.drop n) (ys.drop n):=
 ⟨by simp[h.1],fun i c y h1 h2=>h.2 (n+i) c y (by simpa using h1) (by simpa using h2)⟩
theorem bu.take{l:List C}{ys:List Value}(h:bu w X ρ l ys)(n:Nat):bu w X ρ (l.take n) (ys.take n):=by
 refine⟨by simp[h.1],fun i c y h1 h2=>?_⟩
 rw[pW] at h1 h2
 split at h1
 ·rename_i hi
  rw[aC hi] at h2
  exact h.2 i c y h1 h2
 ·cases h1
theorem bu.append{l m:List C}{ys zs:List Value}(h:bu w X ρ l ys)(h':bu w X ρ m zs):bu w X ρ (l++m) (ys++zs):=by
 refine⟨by simp[h.1,h'.1],fun i c y h1 h2=>?_⟩
 rw[sC] at h1 h2
 have hl:=h.1
 by_cases hi:i<l.length
 ·rw[aC hi] at h1
  rw[aC (by omega)] at h2
  exact h.2 i c y h1 h2
 ·rw[aA hi] at h1
  rw[aA (by omega)] at h2
  rw[hl] at h2
  exact h'.2 _ c y h1 h2
theorem bu.one{c:C}{y:Value}(h:ch w X ρ c y):bu w X ρ [c] [y]:=by
 refine⟨rfl,fun i c' y' h1 h2=>?_⟩
 cases i with
 | zero=>simp at h1 h2;subst h1;subst h2;exact h
 | succ i=>simp at h1
def Ya:C→Bool
 | .top=>false
 | _=>true
theorem bu.mg{l:List C}{ys:List Value}(h:bu w X ρ l ys)(ho:l.all Ya=true):∀v∈ys,v.oneCell'=true:=by
 intro v hv
 obtain⟨i,hi,rfl⟩:=CN hv
 have hl:=h.1
 have hil:i<l.length:=by omega
 have hc:=h.2 i l[i] ys[i] (dG hil) (dG hi)
 rcases hc with hc | hc
 ·have:=jF.1 ho _ (OJ hil)
  rw[hc] at this
  cases this
 ·exact hc.2
end
def O1(place:Nat→Option (Nat×Nat))(cells:List C):List (Nat×D)→Option (List C)
 | []=>some cells
 | (i,d)::rest=>match place i,FE d with
  | some (off,size),some cs=>if cs.length=size∧off+size≤cells.length then O1 place (cells.take off++cs++cells.drop (off+size)) rest else none
  | _,_=>none
theorem WQ(vs:List Value):∀(i off:Nat) (arr:Array Value),off+i+vs.length≤arr.size →
 ((vs.zipIdx i).foldl (fun(cs:Array Value) (x:Value×Nat)=>cs.setIfInBounds (off+x.2) x.1) arr).toList=arr.toList.take (off+i)++vs++arr.toList.drop (off+i+vs.length):=by
 induction vs with
 | nil=>intro i off arr h;simp
 | cons v vs ih=>
  intro i off arr h
  simp only[oB] at h
  rw[List.zipIdx_cons,List.foldl_cons,ih (i+1) off _ (by simp;omega)]
  have:=list_seg_step arr.toList (off+i) v vs (by simp;omega)
  simp only[Array.toList_setIfInBounds,oB]
  rw[←TZ,this]
section
variable {w:World} {X:Nat→Prop} {ρ:nT}
theorem JI(place:Nat→Option (Nat×Nat)):∀(parts:List (Nat×D)) (vparts:List (Nat×Value)) (cells:List C) (ys:Array Value) (cs':List C),
 bu w X ρ cells ys.toList→parts.length=vparts.length→(∀(i:Nat) p q,parts[i]?=some p→vparts[i]?=some q→p.1=q.1∧ay w X ρ p.2 q.2) →
 O1 place cells parts=some cs'→∃ys',Instr.fill place ys vparts=some ys'∧bu w X ρ cs' ys'.toList
 | [],[],cells,ys,cs',h,_,_,hf=>by
  simp only[O1,cC] at hf
  subst hf
  exact⟨ys,rfl,h⟩
 | (i,d)::rest,(i',v)::vrest,cells,ys,cs',h,hlen,hp,hf=>by
  obtain⟨rfl,hd⟩:=hp 0 _ _ rfl rfl
  simp only at hd
  simp only[O1] at hf
  split at hf
  ·rename_i off size cs hpl hdc
   split at hf
   ·rename_i hc
    have hl:=CQ hd hdc
    have hsz:v.cells.size=size:=by have:=hl.1;rw[mT] at this;omega
    have hcl:=h.1
    rw[mT] at hcl
    have hfs:=WQ v.cells.toList 0 off ys (by rw[mT];omega)
    simp only[rS] at hfs
    have hnew:bu w X ρ (cells.take off++cs++cells.drop (off+size)) (v.cells.zipIdx.foldl (fun cs (c,j)=>cs.setIfInBounds (off+j) c) ys).toList:=by
     rw[←Array.foldl_toList,Array.toList_zipIdx]
     rw[show (fun(cs:Array Value) (x:Value×Nat)=>match x with | (c,j)=>cs.setIfInBounds (off+j) c)=fun cs x=>cs.setIfInBounds (off+x.2) x.1 from rfl,hfs,mT,hsz]
     exact((h.take off).append hl).append (h.drop (off+size))
    obtain⟨ys',h1,h2⟩:=JI place rest vrest _ _ cs' hnew (by simpa using hlen) (fun j p q e1 e2=>hp (j+1) p q (by simpa using e1) (by simpa using e2)) hf
    refine⟨ys',?_,h2⟩
    simp only[Instr.fill,hpl]
    rw[aA (by simp[hsz];omega)]
    exact h1
   ·cases hf
  ·cases hf
 | [],_::_,_,_,_,_,hlen,_,_=>by simp at hlen
 | _::_,[],_,_,_,_,hlen,_,_=>by simp at hlen
end
def UL(l:List C)(off n:Nat)(agg:Bool):Option S1:=
 if agg then (if off+n≤l.length then some (.agg ((l.drop off).take n)) else none) else (l[off]?).map .c
section
variable {P:Program} {w:World} {X:Nat→Prop} {ρ:nT}
theorem N1{l:List C}{cs:Array Value}{t:TypeId}{off n:Nat}{b:Bool}{s:S1}(h:bu w X ρ l cs.toList)(hn:MS P t=some n)(hb:RH P t=some b)(hs:UL l off n b=some s):
 ∃v,(part t cs off).run P w=.ok v w∧ek w X ρ s v:=by
 unfold UL at hs
 have hl:=h.1
 rw[mT] at hl
 unfold part
 simp only[bO,SF hb,dM]
 cases b with
 | true=>
  simp only[eP] at hs ⊢
  split at hs
  ·cases hs
   refine⟨_,by simp only[bO,iT hn,dM,iL];rfl,_,rfl,?_⟩
   rw[Array.toList_extract,List.extract_eq_take_drop,TV]
   exact(h.drop off).take n
  ·cases hs
 | false=>
  simp only[pB,iK] at hs ⊢
  cases hc:l[off]? with
  | none=>simp[hc] at hs
  | some c=>
   simp only[hc,fH,cC] at hs
   subst hs
   have hlt:off<l.length:=(dA.1 hc).1
   have hv:cs[off]?=some (cs[off]'(by omega)):=vL _
   refine⟨_,by rw[hv];rfl,h.2 off c _ hc (by rw[MK];exact hv)⟩
end
@[irreducible] def cL{α:Type}(l:List α)(i:Int):Option α:=if 0≤i then l[i.toNat]? else none
@[irreducible] def aH{α:Type}(l:List α):Int:=l.length
@[irreducible] def aV(n i:Int):Option Nat:=if 0≤i∧i<n then some i.toNat else none
@[irreducible] def UM(n:Nat):Int:=n
@[irreducible] def Ix(a b:Nat):Nat:=a+b
@[irreducible] def oC{α:Type}(l:List α)(lo len:Nat):List α:=(l.drop lo).take len
@[irreducible] def JJ(L l h:Int):Option (Nat×Nat):=if 0≤l∧l≤h∧h≤L then some (l.toNat,(h-l).toNat) else none
@[irreducible] def Si(L l h m:Int):Option (Nat×Nat):=if 0≤l∧l≤h∧h=m∧h≤L then some (l.toNat,(h-l).toNat) else none
theorem Fk{L l h:Int}{p:Nat×Nat}(hc:JJ L l h=some p):0≤l∧l≤h∧h≤L∧p=(l.toNat,(h-l).toNat):=by
 unfold JJ at hc
 split at hc
 ·rename_i hh;cases hc;exact⟨hh.1,hh.2.1,hh.2.2,rfl⟩
 ·cases hc
theorem Fl{L l h m:Int}{p:Nat×Nat}(hc:Si L l h m=some p):0≤l∧l≤h∧h=m∧h≤L∧p=(l.toNat,(h-l).toNat):=by
 unfold Si at hc
 split at hc
 ·rename_i hh;cases hc;exact⟨hh.1,hh.2.1,hh.2.2.1,hh.2.2.2,rfl⟩
 ·cases hc
def T.cell(x:T)(j:Nat):T:=x.cells.getD j (.v undef)
def BS(x:T)(j n:Nat):List C:=(List.range n).map fun m=>.t (x.cell (j+m))
theorem Fm{α:Type}{l:List α}{i:Int}{x:α}(h:cL l i=some x):0≤i∧l[i.toNat]?=some x:=by
 unfold cL at h
 split at h
 ·exact⟨by assumption,h⟩
 ·cases h
theorem LF{n i:Int}{m:Nat}(h:aV n i=some m):0≤i∧i<n∧i=m∧i.toNat=m:=by
 unfold aV at h
 split at h
 ·cases h;omega
 ·cases h
section
variable {w:World} {X:Nat→Prop} {ρ:nT}
theorem ij.cells{n:Nat}{x:T}{a:Addr}(h:ij w X n x a){j m:Nat}(hj:j+m≤n):
 ∃ys:List Value,ys.length=m∧(∀(i:Nat) y,ys[i]?=some y→w.cell? ((a.add j).add i)=some y)∧bu w X ρ (BS x j m) ys:=by
 obtain⟨h0,ys,hl,hc,ht⟩:=h
 refine⟨(ys.drop j).take m,by simp[hl];omega,fun i y hi=>?_,?_⟩
 ·rw[pW] at hi
  split at hi
  ·rw[tV] at hi
   rw[sU]
   exact(hc _ _ hi).1
  ·cases hi
 ·refine⟨by simp[BS,hl];omega,fun i c y h1 h2=>?_⟩
  simp only[BS,eW,ZH] at h1
  rw[pW] at h2
  split at h2
  ·rename_i hi
   rw[tV] at h2
   rw[ZH hi] at h1
   simp only[fH,cC] at h1
   subst h1
   have hlt:j+i<x.cells.length:=by omega
   refine .inr ⟨?_,(hc _ _ h2).2.2⟩
   have:=ht (j+i) (x.cells[j+i]) y (dG hlt) h2
   simpa[ia,T.cell,jY,dG hlt] using this
  ·cases h2
theorem Rd.elem{k:Nat}{l:List T}{a:Addr}{c n:Nat}(h:Rd w X (.sl k l) (.slice (some a) n c)){i:Nat}{x:T}(hi:l[i]?=some x):n=l.length∧ij w X k x (a.add (i*k)):=by
 cases h with
 | sl _ _ _ _ ys _ hc hm hu hy hcell hr=>
  refine⟨rfl,hu x (mS hi),(ys.drop (i*k)).take k,?_,fun j y hj=>?_,fun j t y h1 h2=>?_⟩
  ·have hlt:i<l.length:=(dA.1 hi).1
   have:(i+1)*k≤l.length*k:=E9 _ hlt
   rw[tU] at this
   simp[hy,hu.length]
   omega
  ·rw[pW] at hj
   split at hj
   ·rw[tV] at hj
    rw[sU,uY]
    exact hcell _ _ hj
   ·cases hj
  ·rw[pW] at h2
   split at h2
   ·rename_i hj
    rw[tV] at h2
    exact hr (i*k+j) t y (by rw[hu.cell hi j hj];exact h1) h2
   ·cases h2
theorem pI{h:Value}{fz:Bool}{e:TypeId}{n:Nat}{l:List T}(ho:ct w X ρ h (.row fz e n l)):
 (h=.slice none 0 0∧l=[])∨∃a cap,h=.slice (some a) l.length cap∧l.length≤cap∧cap≤maxLen∧∃xs,dk w X (flat l) xs∧(∀(i:Nat) y,xs[i]?=some y→w.cell? (a.add i)=some y):=by
 obtain⟨h0,hu,⟨xs,hown,hr⟩,hf⟩:=ho
 rcases hown.2 with⟨e1 | ⟨a,e1⟩,e2⟩ | ⟨g,off,cap,jE,e1,_,_,h1,h2,_⟩
 ·exact .inl ⟨e1,vJ e2⟩
 ·exact .inr ⟨a,0,by rw[e2];exact e1,by omega,by unfold maxLen;omega,xs,hr,hown.cells e1⟩
 ·exact .inr ⟨⟨g,off,none⟩,cap,e1,h1,h2,xs,hr,hown.cells e1⟩
theorem JK{X':Nat→Prop}{h:Value}{fz:Bool}{e:TypeId}{n:Nat}{l:List T}(ho:ct w X ρ h (.row fz e n l))(hX:∀b,X' b→X b)(hb:∀b,bq h=some b→¬X' b):Rd w X' (.sl n l) h:=by
 have ho':=ho
 obtain⟨h0,hu,_,_⟩:=ho'
 rcases pI ho with⟨rfl,rfl⟩ | ⟨a,cap,rfl,h1,h2,xs,hr,hc⟩
 ·exact .nil n h0.2
 ·refine .sl n l _ cap xs h0.2 h1 h2 hu hr.1 (fun i y hi=>?_) fun i t y e1 e2=>(hr.2 i t y e1 e2).1.ie hX
  have hlt:i<(flat l).length:=by have:=(dA.1 hi).1;rw[hr.1] at this;exact this
  have hc0:cap≠0:=by
   intro hc0
   have:l=[]:=vJ (by omega)
   subst this
   simp[flat] at hlt
  exact⟨hc i y hi,hb _ (by simp[bq,hc0]),(hr.2 i _ y (dG hlt) hi).2⟩
theorem UN{X':Nat→Prop}{h:Value}{fz:Bool}{e:TypeId}{n:Nat}{l:List T}(ho:ct w X ρ h (.mp fz e n l))(hX:∀b,X' b→X b)(hb:∀b,bq h=some b→¬X' b):Rd w X' (.sl n l) h:=by
 obtain⟨h0,g,es,clock,rfl,hg,⟨e1,e2,e3,_⟩,_⟩:=ho
 exact .mp n l g es clock h0 hg (hb g rfl) e1 e2 fun i k v e a b=>(e3 i k v e a b).ie hX
theorem Sj{h:Value}{fz:Bool}{e:TypeId}{n:Nat}{l:List T}(ho:ct w X ρ h (.mp fz e n l)):h.oneCell'=true:=by
 obtain⟨h0,g,es,clock,rfl,_⟩:=ho
 rfl
theorem GX{h y:Value}{fz tg:Bool}{e:TypeId}{n lo len:Nat}{l:List T}(ho:ct w X ρ h (.row fz e n l))(hc:ei h n lo len tg y):
 (oC l lo len).length=len∧dr n (oC l lo len)∧y.oneCell'=true∧((y=.slice none 0 0∧oC l lo len=[])∨∃a q,y=.slice (some a) (oC l lo len).length q∧(oC l lo len).length≤q∧q≤maxLen ∧
  ∃xs,dk w X (flat (oC l lo len)) xs∧∀(i:Nat) z,xs[i]?=some z→w.cell? (a.add i)=some z∧bq h=some a.block):=by
 have ho':=ho
 obtain⟨h0,hu,_,_⟩:=ho'
 unfold oC
 obtain⟨ao,L,c,cc,ao',rfl,rfl,h1,h2,h3,h4,_⟩:=hc
 have mq:dk w X (flat ([]:List T)) []:=⟨rfl,fun i t y h1 _=>by simp[flat] at h1⟩
 have hempty:∀m:List T,m=[]→len=0→cc≤maxLen→((Value.slice ao' len cc=.slice none 0 0∧m=[])∨∃a q,Value.slice ao' len cc=.slice (some a) m.length q∧m.length≤q∧q≤maxLen ∧
  ∃xs,dk w X (flat m) xs∧∀(i:Nat) z,xs[i]?=some z→w.cell? (a.add i)=some z∧bq (.slice ao L c)=some a.block):=fun m hm hl hcm=>by
  subst hm;subst hl
  cases ao' with
  | none=>
   have:cc=0:=by
    rcases Nat.eq_zero_or_pos cc with h | h
    ·exact h
    ·have h5:=h4 h
     cases ao with
     | none=>
      rcases pI ho with⟨e1,_⟩ | ⟨a,cap,e1,_⟩
      ·cases e1;omega
      ·cases e1
     | some a=>cases h5
   subst this
   exact .inl ⟨rfl,rfl⟩
  | some b=>exact .inr ⟨b,cc,rfl,HU _,hcm,[],mq,fun i z h=>by simp at h⟩
 rcases pI ho with⟨e1,rfl⟩ | ⟨a,cap,e1,g1,g2,xs,hr,hcell⟩
 ·cases e1
  have:len=0:=by omega
  subst this
  exact⟨by simp,by simp;exact .nil n,rfl,hempty _ (by simp) rfl (by unfold maxLen;omega)⟩
 ·cases e1
  have hlen:((l.drop lo).take len).length=len:=by rw[mU,MO];omega
  refine⟨hlen,(hu.drop lo).take len,rfl,?_⟩
  by_cases hz:len=0
  ·exact hempty _ (vJ (by rw[hlen];exact hz)) hz (by omega)
  ·have h5:=h4 (by omega)
   have hao:ao'=some (a.add (lo*n)):=h5
   rw[hao]
   have hfl:flat ((l.drop lo).take len)=((flat l).drop (lo*n)).take (len*n):=by rw[(hu.drop lo).dd,hu.cr]
   have hxl:=hr.1
   refine .inr ⟨a.add (lo*n),cc,by rw[hlen],by rw[hlen];exact h2,by omega,(xs.drop (lo*n)).take (len*n),⟨by rw[hfl];simp[hxl],fun i t z hi hz'=>?_⟩,fun i z hi=>?_⟩
   ·rw[hfl,pW] at hi
    rw[pW] at hz'
    split at hi
    ·rename_i hlt
     rw[aC hlt] at hz'
     rw[tV] at hi hz'
     exact hr.2 _ t z hi hz'
    ·cases hi
   ·rw[pW] at hi
    split at hi
    ·rw[tV] at hi
     refine⟨by rw[sU];exact hcell _ z hi,?_⟩
     rw[uY]
     simp only[bq];rw[aA (by omega)]
    ·cases hi
theorem O2{X':Nat→Prop}{h y:Value}{fz tg:Bool}{e:TypeId}{n lo len:Nat}{l:List T}(ho:ct w X ρ h (.row fz e n l))(hc:ei h n lo len tg y)(hX:∀b,X' b→X b)(hb:∀b,bq h=some b→¬X' b):
 Rd w X' (.sl n (oC l lo len)) y:=by
 obtain⟨_,hu,_,hh⟩:=GX ho hc
 rcases hh with⟨rfl,h2⟩ | ⟨a,q,rfl,h1,h2,xs,hr,hcell⟩
 ·rw[h2];exact .nil n ho.1.2
 ·refine .sl n _ a q xs ho.1.2 h1 h2 hu hr.1 (fun i z hi=>?_) fun i t z e1 e2=>(hr.2 i t z e1 e2).1.ie hX
  have hlt:i<(flat (oC l lo len)).length:=by rw[←hr.1];exact(dA.1 hi).1
  obtain⟨g1,g2⟩:=hcell i z hi
  exact⟨g1,hb _ g2,(hr.2 i _ z (dG hlt) hi).2⟩
theorem Oh{h:Value}{fz:Bool}{e:TypeId}{n:Nat}{l:List T}(ho:ct w X ρ h (.row fz e n l)):h.oneCell'=true:=by
 rcases pI ho with⟨rfl,_⟩ | ⟨g,cap,rfl,_⟩ <;> rfl
theorem Iy{h:Value}{fz:Bool}{e:TypeId}{n:Nat}{l:List T}(ho:ct w X ρ h (.row fz e n l)){i:Nat}{x:T}(hi:l[i]?=some x){j m:Nat}(hj:j+m≤n):
 ∃a ys,JG h=some a∧ys.length=m∧(∀(q:Nat) y,ys[q]?=some y→w.cell? ((a.add (i*n+j)).add q)=some y)∧bu w X ρ (BS x j m) ys:=by
 have ho':=ho
 obtain⟨h0,hu,_,_⟩:=ho'
 rcases pI ho with⟨rfl,rfl⟩ | ⟨a0,cap,rfl,h1,h2,xs,hr,hc⟩
 ·simp at hi
 ·have hlt:i<l.length:=(dA.1 hi).1
  have hmul:(i+1)*n≤l.length*n:=E9 _ hlt
  rw[tU] at hmul
  have hxl:xs.length=l.length*n:=by rw[hr.1,hu.length]
  have hxn:x.cells.length=n:=hu x (mS hi)
  refine⟨_,(xs.drop (i*n+j)).take m,rfl,by simp[hxl];omega,fun q y hq=>?_,?_⟩
  ·rw[pW] at hq
   split at hq
   ·rw[tV] at hq
    rw[sU]
    exact hc _ _ hq
   ·cases hq
  ·refine⟨by simp[BS,hxl];omega,fun q c y e1 e2=>?_⟩
   simp only[BS,eW] at e1
   rw[pW] at e2
   split at e2
   ·rename_i hq
    rw[tV] at e2
    rw[ZH hq] at e1
    simp only[fH,cC] at e1
    subst e1
    have hlt':j+q<x.cells.length:=by omega
    have hce:=hu.cell hi (j+q) (by omega)
    have hr':=hr.2 (i*n+j+q) (x.cells[j+q]) y (by rw[TZ,hce,dG hlt']) e2
    refine .inr ⟨?_,hr'.2⟩
    simpa[ia,T.cell,jY,dG hlt'] using hr'.1
   ·cases e2
end
@[irreducible] def tQ(a b:Bool):Bool:=a&&b
section
variable {R:Type} (P:Program)
def UO(rc:TypeId→S1→S1→(Bool→Option R)→Option R)(cs ds:List C):List Field→(Bool→Option R)→Option R
 | [],k=>k true
 | f::fs,k=>if f.name = "_" then none else match RH P f.type,MS P f.type with
  | some ag,some n=>match UL cs f.offset n ag,UL ds f.offset n ag with
   | some s,some s'=>rc f.type s s' fun b=>UO rc cs ds fs fun r=>k (tQ b r)
   | _,_=>none
  | _,_=>none
def UP(rc:TypeId→S1→S1→(Bool→Option R)→Option R)(e:TypeId)(n:Nat)(ag:Bool)(cs ds:List C):List Nat→(Bool→Option R)→Option R
 | [],k=>k true
 | i::is,k=>match UL cs (i*n) n ag,UL ds (i*n) n ag with
  | some s,some s'=>rc e s s' fun b=>UP rc e n ag cs ds is fun r=>k (tQ b r)
  | _,_=>none
def S1.au:S1→Option (List C)
 | .agg l=>some l
 | _=>none
def IL:Nat→TypeId→S1→S1→(Bool→Option R)→Option R
 | 0,_,_,_,_=>none
 | d+1,t,x,y,k=>match P.underlying t with
  | some (.int kd)=>RE kd (.s x) fun a=>RE kd (.s y) fun b=>k (cV a b)
  | some .bool=>RG (.s x) fun a=>RG (.s y) fun b=>k (Is a b)
  | some .string=>WL (.s x) fun a=>WL (.s y) fun b=>k (Ob a b)
  | some (.struct fs)=>if P.stoodInHeld t=true then none else match x.au,y.au with
   | some cs,some ds=>UO P (IL d) cs ds fs.toList k
   | _,_=>none
  | some (.array n e)=>match RH P e,MS P e,x.au,y.au with
   | some ag,some sz,some cs,some ds=>UP (IL d) e sz ag cs ds (List.range n) k
   | _,_,_,_=>none
  | _=>none
def Iz(P:Program)(ty:TypeId):Bool:=match P.underlying ty with
 | some (.struct _)=>true
 | some (.array _ _)=>true
 | _=>false
def Oi(d:D)(k:S1→Option R):Option R:=match d with
 | .s x=>k x
 | _=>none
def Fo(op:BinOp)(ty yty:TypeId)(x y:D)(f:D→Option R):Option R:=
 if Iz P ty=true then (if P.eqGuardType P.depth ty=true then none else
  Oi x fun a=>Oi y fun b=>if op=.eql then IL P 8 ty a b fun b=>f (dB b) else if op=.neq then IL P 8 ty a b fun b=>f (dB (!b)) else none)
 else Fj P op ty yty x y f
variable {P} {w:World} {X:Nat→Prop} {ρ:nT}
def Oj(P:Program)(w:World)(X:Nat→Prop)(ρ:nT)(d:Nat)(rc:∀{R:Type},TypeId→S1→S1→(Bool→Option R)→Option R):Prop:=
 ∀{R:Type} (r:R) (t:TypeId) (x y:S1) (vx vy:Value) (k:Bool→Option R),ek w X ρ x vx→ek w X ρ y vy→rc t x y k=some r→∃b,(Op.equalIn d t vx vy).run P w=.ok b w∧k b=some r
theorem Cy{d:Nat}{rc:∀{R:Type},TypeId→S1→S1→(Bool→Option R)→Option R}(hrc:Oj P w X ρ d rc){xs ys:Array Value}{cs ds:List C}(hx:bu w X ρ cs xs.toList)(hy:bu w X ρ ds ys.toList):
 ∀(fs:List Field) {R:Type} (r:R) (k:Bool→Option R),UO P rc cs ds fs k=some r→∃b,(Op.eqFields d xs ys fs).run P w=.ok b w∧k b=some r
 | [],R,r,k,h=>⟨true,by simp[Op.eqFields],h⟩
 | f::fs,R,r,k,h=>by
  simp only[UO] at h
  split at h
  ·cases h
  ·rename_i hn
   split at h
   case h_2=>cases h
   rename_i ag n hag hsz
   split at h
   case h_2=>cases h
   rename_i s s' hs hs'
   obtain⟨va,e1,r1⟩:=N1 hx hsz hag hs
   obtain⟨vb,e2,r2⟩:=N1 hy hsz hag hs'
   obtain⟨b,e3,h3⟩:=hrc r f.type s s' va vb _ r1 r2 h
   obtain⟨b',e4,h4⟩:=Cy hrc hx hy fs r _ h3
   simp only[Op.eqFields,hn,vM,ZZ,eP,bO,e1,e2,e3,dM]
   cases b with
   | false=>exact⟨false,by simp,by unfold tQ at h4;simpa using h4⟩
   | true=>exact⟨b',by simpa using e4,by unfold tQ at h4;simpa using h4⟩
theorem Cz{d:Nat}{rc:∀{R:Type},TypeId→S1→S1→(Bool→Option R)→Option R}(hrc:Oj P w X ρ d rc){e:TypeId}{n:Nat}{ag:Bool}(hsz:MS P e=some n)(hag:RH P e=some ag){xs ys:Array Value}{cs ds:List C}(hx:bu w X ρ cs xs.toList)(hy:bu w X ρ ds ys.toList):
 ∀(is:List Nat) {R:Type} (r:R) (k:Bool→Option R),UP rc e n ag cs ds is k=some r→∃b,(Op.eqItems d e n xs ys is).run P w=.ok b w∧k b=some r
 | [],R,r,k,h=>⟨true,by simp[Op.eqItems],h⟩
 | i::is,R,r,k,h=>by
  simp only[UP] at h
  split at h
  case h_2=>cases h
  rename_i s s' hs hs'
  obtain⟨va,e1,r1⟩:=N1 hx hsz hag hs
  obtain⟨vb,e2,r2⟩:=N1 hy hsz hag hs'
  obtain⟨b,e3,h3⟩:=hrc r e s s' va vb _ r1 r2 h
  obtain⟨b',e4,h4⟩:=Cz hrc hsz hag hx hy is r _ h3
  simp only[Op.eqItems,bO,e1,e2,e3,dM]
  cases b with
  | false=>exact⟨false,by simp,by unfold tQ at h4;simpa using h4⟩
  | true=>exact⟨b',by simpa using e4,by unfold tQ at h4;simpa using h4⟩
theorem BT{s:S1}{l:List C}{v:Value}(h:ek w X ρ s v)(hs:s.au=some l):∃xs:Array Value,v=.agg xs∧bu w X ρ l xs.toList:=by
 cases s with
 | c c=>cases hs
 | agg l'=>cases hs;exact h
theorem UQ:∀(d D:Nat),d≤D→Oj P w X ρ D (fun {R}=>IL (R:=R) P d)
 | 0,D,_,R,r,t,x,y,vx,vy,k,hx,hy,h=>by cases h
 | d+1,0,hD,R,r,t,x,y,vx,vy,k,hx,hy,h=>by omega
 | d+1,D+1,hD,R,r,t,x,y,vx,vy,k,hx,hy,h0=>by
  have h:IL P (d+1) t x y k=some r:=h0
  clear h0
  have ih:Oj P w X ρ D (fun {R}=>IL (R:=R) P d):=@fun R=>@UQ d D (by omega) R
  have hx':ay w X ρ (.s x) vx:=hx
  have hy':ay w X ρ (.s y) vy:=hy
  simp only[IL] at h
  split at h
  ·rename_i kd hu
   obtain⟨a,rfl,h⟩:=AV hx' h
   obtain⟨b,rfl,h⟩:=AV hy' h
   exact⟨a==b,run_equalIn_int w D t kd kd a b hu,by unfold cV at h;exact h⟩
  ·rename_i hu
   obtain⟨a,rfl,h⟩:=B8 hx' h
   obtain⟨b,rfl,h⟩:=B8 hy' h
   exact⟨a==b,run_equalIn_bool w D t a b hu,by unfold Is at h;exact h⟩
  ·rename_i hu
   obtain⟨a,rfl,h⟩:=DC hx' h
   obtain⟨b,rfl,h⟩:=DC hy' h
   exact⟨a.toList==b.toList,run_equalIn_string w D t a b hu,by unfold Ob at h;exact h⟩
  ·rename_i fs hu
   split at h
   ·cases h
   rename_i hst
   split at h
   case h_2=>cases h
   rename_i cs ds hcs hds
   obtain⟨xs,rfl,hxs⟩:=BT hx hcs
   obtain⟨ys,rfl,hys⟩:=BT hy hds
   obtain⟨b,e,hk⟩:=Cy ih hxs hys fs.toList r k h
   have hf:P.fieldsOf t=fs:=by simp[Program.fieldsOf,hu]
   refine⟨b,?_,hk⟩
   rw[run_equalIn_struct w D t xs ys (by rw[hf];exact hu) (by simpa using hst),hf]
   exact e
  ·rename_i n e hu
   split at h
   case h_2=>cases h
   rename_i ag sz cs ds hag hsz hcs hds
   obtain⟨xs,rfl,hxs⟩:=BT hx hcs
   obtain⟨ys,rfl,hys⟩:=BT hy hds
   obtain⟨b,e',hk⟩:=Cz ih hsz hag hxs hys (List.range n) r k h
   refine⟨b,?_,hk⟩
   obtain⟨i,hi,hsi⟩:∃i,P.info? e=some i∧i.size=sz:=by
    unfold MS at hsz
    cases hi:P.info? e with
    | none=>simp[hi] at hsz
    | some i=>exact⟨i,rfl,by simpa[hi] using hsz⟩
   have hc:P.cellsOf e=sz:=by simp[Program.cellsOf,hi,hsi]
   rw[run_equalIn_array w D xs ys hu hi,hc]
   exact e'
  ·cases h
theorem Da{d:D}{v:Value}{r:R}{k:S1→Option R}(h:ay w X ρ d v)(hk:Oi d k=some r):∃s,ek w X ρ s v∧k s=some r:=by
 cases d with
 | s x=>exact⟨x,h,hk⟩
 | ee l=>cases hk
theorem Ok{r:R}{op:BinOp}{ty yty:TypeId}{x y:D}{xo yo:Operand}{vx vy:Value}{f:D→Option R}(hx:ay w X ρ x vx)(hy:ay w X ρ y vy)(h:Fo P op ty yty x y f=some r):
 ∃d v,(do eqGuard op ty xo yo vx vy;binOp op ty vx vy:Sem Value).run P w=.ok v w∧ay w X ρ d v∧f d=some r:=by
 unfold Fo at h
 split at h
 case isFalse=>exact Og hx hy h
 rename_i hagg
 split at h
 ·cases h
 rename_i hg
 obtain⟨a,ha,h1⟩:=Da hx h
 obtain⟨b,hb,h2⟩:=Da hy h1
 clear h h1
 have aggv:∀{R:Type} {r:R} {k:Bool→Option R},IL P 8 ty a b k=some r→(∃xs,vx=.agg xs)∧∃ys,vy=.agg ys:=by
  intro R r k h
  have h8:IL P 8 ty a b k=match P.underlying ty with
   | some (.int kd)=>RE kd (.s a) fun a=>RE kd (.s b) fun b=>k (cV a b)
   | some .bool=>RG (.s a) fun a=>RG (.s b) fun b=>k (Is a b)
   | some .string=>WL (.s a) fun a=>WL (.s b) fun b=>k (Ob a b)
   | some (.struct fs)=>if P.stoodInHeld ty=true then none else match a.au,b.au with
    | some cs,some ds=>UO P (IL P 7) cs ds fs.toList k
    | _,_=>none
   | some (.array n e)=>match RH P e,MS P e,a.au,b.au with
    | some ag,some sz,some cs,some ds=>UP (IL P 7) e sz ag cs ds (List.range n) k
    | _,_,_,_=>none
   | _=>none:=rfl
  rw[h8] at h
  unfold Iz at hagg
  split at hagg
  ·rename_i fs hu
   simp only[hu] at h
   split at h
   ·cases h
   split at h
   case h_2=>cases h
   rename_i h1 h2
   obtain⟨xs,e1,_⟩:=BT ha h1
   obtain⟨ys,e2,_⟩:=BT hb h2
   exact⟨⟨xs,e1⟩,ys,e2⟩
  ·rename_i n e hu
   simp only[hu] at h
   split at h
   case h_2=>cases h
   rename_i h1 h2
   obtain⟨xs,e1,_⟩:=BT ha h1
   obtain⟨ys,e2,_⟩:=BT hb h2
   exact⟨⟨xs,e1⟩,ys,e2⟩
  ·cases hagg
 have hguard:∀xs ys,(eqGuard op ty xo yo (.agg xs) (.agg ys)).run P w=.ok () w:=fun xs ys=>by
  unfold eqGuard
  have hg':P.eqGuardType P.depth ty=false:=by simpa using hg
  cases op <;> first
   | rfl
   | (simp only[BQ,pB,iK,bO,run_program,dM,hg',xA,eP,iL])
 have hm:∀vx vy,(Op.equal ty vx vy).run P w=(Op.equalIn 10000 ty vx vy).run P w:=fun _ _=>rfl
 split at h2
 ·rename_i ho
  subst ho
  obtain⟨⟨xs,rfl⟩,ys,rfl⟩:=aggv h2
  obtain⟨q,e,hk⟩:=UQ (P:=P) 8 10000 (by omega) r ty a b _ _ _ ha hb h2
  refine⟨_,.bool q,?_,.bool q,hk⟩
  simp only[bO,hguard,dM]
  show (do pure (.bool (←Op.equal ty (.agg xs) (.agg ys))):Sem Value).run P w=_
  simp only[bO,hm,e,dM,iL]
 ·split at h2
  ·rename_i ho
   subst ho
   obtain⟨⟨xs,rfl⟩,ys,rfl⟩:=aggv h2
   obtain⟨q,e,hk⟩:=UQ (P:=P) 8 10000 (by omega) r ty a b _ _ _ ha hb h2
   refine⟨_,.bool (!q),?_,.bool (!q),hk⟩
   simp only[bO,hguard,dM]
   show (do pure (.bool (!(←Op.equal ty (.agg xs) (.agg ys)))):Sem Value).run P w=_
   simp only[bO,hm,e,dM,iL]
  ·cases h2
end
@[irreducible] def aS{α:Type}(l:List α)(i:Nat):Option α:=l[i]?
theorem CR{α:Type}{l:List α}{i:Nat}{x:α}(h:aS l i=some x):l[i]?=some x:=by unfold aS at h;exact h
def Uu(n:Nat)(cells:List T):T:=match n,cells with
 | 1,t::_=>t
 | _,l=>.agg l
@[irreducible] def T.aw(n:Nat)(x:T)(j:Nat)(ts:List T):T:=Uu n (x.cells.take j++ts++x.cells.drop (j+ts.length))
def C.iz:C→Option T
 | .t (.agg _)=>none
 | .t x=>some x
 | _=>none
def GY:List C→Option (List T)
 | []=>some []
 | c::l=>match c.iz,GY l with
  | some x,some xs=>some (x::xs)
  | _,_=>none
theorem WR{c:C}{x:T}(h:c.iz=some x):c=.t x∧∀l,x≠.agg l:=by
 unfold C.iz at h
 split at h <;> first
  | (cases h;done)
  | (rename_i y hn;cases h;exact⟨rfl,fun l e=>hn l e⟩)
section
variable {w:World} {X:Nat→Prop} {ρ:nT}
theorem O3:∀{cs:List C} {ts:List T} {ys:List Value},bu w X ρ cs ys→GY cs=some ts →
 ts.length=cs.length∧dk w X ts ys∧(∀t∈ts,∀l,t≠.agg l)
 | [],ts,ys,h,ht=>by
  simp only[GY,cC] at ht
  subst ht
  exact⟨rfl,⟨by simpa using h.1,fun i t y h1 _=>by simp at h1⟩,by simp⟩
 | c::l,ts,ys,h,ht=>by
  simp only[GY] at ht
  split at ht
  ·rename_i x xs hx hxs
   cases ht
   obtain⟨rfl,hn⟩:=WR hx
   cases ys with
   | nil=>simp[bu] at h
   | cons y ys=>
    have htail:bu w X ρ l ys:=⟨by simpa using h.1,fun i c y h1 h2=>h.2 (i+1) c y (by simpa using h1) (by simpa using h2)⟩
    obtain⟨e1,e2,e3⟩:=O3 htail hxs
    refine⟨by simp[e1],⟨by simpa using e2.1,fun i t y' h1 h2=>?_⟩,?_⟩
    ·cases i with
     | zero=>
      simp at h1 h2
      subst h1;subst h2
      rcases h.2 0 _ _ rfl rfl with hh | hh
      ·cases hh
      ·exact hh
     | succ i=>exact e2.2 i t y' (by simpa using h1) (by simpa using h2)
    ·intro t ht
     rcases cN.1 ht with rfl | ht
     ·exact hn
     ·exact e3 t ht
  ·cases ht
theorem LG{n:Nat}{ts:List T}(hn:ts.length=n)(h:∀t∈ts,∀l,t≠.agg l):(Uu n ts).cells=ts:=by
 unfold Uu
 split
 ·rename_i t l
  have:l=[]:=vJ (by simpa using hn)
  subst this
  cases t with
  | agg l=>exact(h _ (by simp) l rfl).elim
  | v x=>rfl
  | sl k l=>rfl
 ·rfl
end
def C.shift(off:Nat):C→Option C
 | .box k j=>some (.box k (j+off))
 | .pe n x j=>some (.pe n x (j+off))
 | .ib k n i j=>some (.ib k n i (j+off))
 | _=>none
theorem WS{w:World}{X:Nat→Prop}{ρ:nT}{c c':C}{y:Value}{off:Nat}(h:ch w X ρ c y)(hc:c.shift off=some c'):
 ∃a,y=.pointer (some a)∧ia w X ρ c' (.pointer (some (a.add off))):=by
 rcases h with h | ⟨h,_⟩
 ·subst h;cases hc
 ·unfold C.shift at hc
  split at hc <;> first
   | (cases hc;done)
   | skip
  ·cases hc
   obtain⟨v,h1,a,h2,h3⟩:=h
   exact⟨_,h3,v,h1,a,h2,by rw[sU]⟩
  ·cases hc
   obtain⟨a,h1,h2⟩:=h
   exact⟨_,h1,a,by rw[sU],h2⟩
  ·cases hc
   obtain⟨v,h1,a,h2,h3⟩:=h
   exact⟨_,h3,v,h1,a,h2,by rw[sU,TZ]⟩
section
variable {R:Type} (P:Program)
def Xd(b:Bool)(l:List C):D:=if b then .s (.agg l) else match l with
 | c::_=>.s (.c c)
 | []=>D.top
def O.cells?:O→Option (List C)
 | .box l=>some l
 | .cu l=>some l
 | _=>none
def BO(ae:List O):Nat→Nat→Option Nat
 | 0,_=>none
 | f+1,k=>match ae[k]? with
  | some (.rr _ _ _ _ _)=>some k
  | some (.fwd k')=>BO ae f k'
  | _=>none
def vQ(st:St)(t:TypeId)(d:D)(k:D→Option R):Option R:=
 match MS P t,RH P t with
 | some n,some b=>if b=false∧n≠1 then none else AI d fun c=>match c with
  | .box key j=>match (st.ae[key]?).bind O.cells? with
   | some cs=>match UL cs j n b with
    | some s=>k (.s s)
    | none=>none
   | none=>none
  | .pe m x j=>if j+n≤m then k (Xd b (BS x j n)) else none
  | .ib key m i j=>match st.ae[key]? with
   | some (.row _ _ m' es)=>if m=m'∧j+n≤m then ob (aS es i) fun x=>k (Xd b (BS x j n)) else none
   | _=>none
  | .kn key i=>match BO st.ae 64 key with
   | some K=>match st.ae[K]? with
    | some (.rr none _ _ _ l)=>if b=false then ob (aS l i) fun _=>k (.s (.c (.fh K i))) else none
    | _=>none
   | none=>none
  | _=>none
 | _,_=>none
variable {P} {w0 w:World} {F Xc:Nat→Prop} {ρ0:cn} {ρ:nT} {st:St} {a:Act} {r:R}
theorem Rel.cellsOf(h:Rel w0 F Xc ρ0 ρ st a w){key:Nat}{cs:List C}(hob:(st.ae[key]?).bind O.cells?=some cs):
 ∃hv g ys ty,ρ key=some hv∧hv=.pointer (some ⟨g,0,none⟩)∧w.heap[g]?=some (.cells ys ty (0,0))∧bu w (XB st.ae ρ Xc) ρ cs ys.toList:=by
 obtain⟨o,ho,hc⟩:=pV.1 hob
 have hk:=h.ae key o ho
 cases o with
 | box l=>cases hc;obtain⟨hv,e1,g,ys,ty,e2,e3,_,e4⟩:=hk;exact⟨hv,g,ys,ty,e1,e2,e3,e4⟩
 | cu l=>cases hc;obtain⟨hv,e1,g,ys,ty,e2,e3,e4,_⟩:=hk;exact⟨hv,g,ys,ty,e1,e2,e3,e4⟩
 | _=>cases hc
theorem yJ{t:TypeId}{n:Nat}{b:Bool}{ad:Addr}{ys:List Value}(hn:MS P t=some n)(hb:RH P t=some b)(h1:b=false→n=1)(hl:ys.length=n)
 (hc:∀(i:Nat) y,ys[i]?=some y→w.cell? (ad.add i)=some y):
 (loadVar t ad).run P w=.ok (if b then .agg ys.toArray else ys.headD undef) w:=by
 unfold loadVar
 simp only[bO,SF hb,dM]
 cases b with
 | true=>
  simp only[eP,bO,iT hn,dM,←hl,run_loadCells_list w ad ys hc,iL]
 | false=>
  have hn1:=h1 rfl
  subst hn1
  match ys,hl with
  | [y],_=>
   have:=hc 0 y rfl
   have e:ad.add 0=ad:=rfl
   rw[e] at this
   simp[run_load,this]
theorem Ja{X:Nat→Prop}{b:Bool}{l:List C}{ys:List Value}(h:bu w X ρ l ys)(h1:b=false→ys.length=1):ay w X ρ (Xd b l) (if b then .agg ys.toArray else ys.headD undef):=by
 cases b with
 | true=>exact⟨_,rfl,h⟩
 | false=>
  have hl:=h.1
  have:=h1 rfl
  match ys,l,this,hl with
  | [y],[c],_,_=>exact h.2 0 c y rfl rfl
theorem DD(h:Rel w0 F Xc ρ0 ρ st a w):∀{f key K:Nat} {vs:Array Value},BO st.ae f key=some K→ρ key=some (.tuple vs) →
 ∃hole e e2 n l vs',st.ae[K]?=some (.rr hole e e2 n l)∧ρ K=some (.tuple vs')∧vs'[0]?=vs[0]?∧jb w (XB st.ae ρ Xc) hole e e2 n l (.tuple vs')
 | 0,_,_,_,hr,_=>by simp[BO] at hr
 | f+1,key,K,vs,hr,hv=>by
  simp only[BO] at hr
  split at hr
  ·rename_i hole e e2 n l hob
   cases hr
   obtain⟨v,e1,e2'⟩:=h.ae _ _ hob
   rw[hv] at e1
   cases e1
   exact⟨_,_,_,_,_,vs,hob,hv,rfl,e2'⟩
  ·rename_i k' hob
   obtain⟨v,e1,us,us',g1,g2,g3⟩:=h.ae _ _ hob
   rw[hv] at e1
   cases e1
   cases g1
   obtain⟨hole,e,e2,n,l,vs',q1,q2,q3,q4⟩:=DD h hr g2
   exact⟨hole,e,e2,n,l,vs',q1,q2,q3.trans g3,q4⟩
  ·cases hr
theorem jb.head{X:Nat→Prop}{hole:Option Nat}{e e2:TypeId}{n:Nat}{l:List (List T)}{vs:Array Value}{v:Value}(h:jb w X hole e e2 n l (.tuple vs))(hv:vs[0]?=some v):
 (v=.slice none 0 0∧l=[])∨∃a cap,v=.slice (some a) l.length cap:=by
 obtain⟨h0,ho,hs,xs,g1,g2,g3,_⟩:=h
 cases g1
 have:ho=v:=by simpa using hv
 subst this
 rcases g2.2 with⟨hn | ⟨a,hn⟩,hz⟩ | ⟨g,off,cap,jE,hn,_⟩
 ·exact .inl ⟨hn,vJ hz⟩
 ·exact .inr ⟨a,0,by rw[hn,hz]⟩
 ·exact .inr ⟨_,cap,hn⟩
theorem WT{t:TypeId}{d:D}{v:Value}{k:D→Option R}(h:Rel w0 F Xc ρ0 ρ st a w)(hd:ay w (XB st.ae ρ Xc) ρ d v)(hk:vQ P st t d k=some r):
 ∃s y,(Instr.loadAt t v).run P w=.ok y w∧ay w (XB st.ae ρ Xc) ρ s y∧k s=some r:=by
 unfold vQ at hk
 split at hk
 case h_2=>cases hk
 rename_i n b hn hb
 split at hk
 case isTrue=>cases hk
 rename_i hnb
 have hb1:b=false→n=1:=fun e=>by
  apply FA;intro hh;exact hnb ⟨e,hh⟩
 obtain⟨c,rfl,hc,hk⟩:=vN hd hk
 cases c with
 | box key j=>
  dsimp only at hk
  split at hk
  case h_2=>cases hk
  rename_i cs hob
  split at hk
  case h_2=>cases hk
  rename_i s hsub
  rcases hc with hc | ⟨⟨hv,e1,ba,e2,e3⟩,_⟩
  ·cases hc
  ·obtain⟨hv',g,ys,ty,f1,f2,f3,f4⟩:=h.cellsOf hob
   rw[e1] at f1
   cases f1
   rw[f2] at e2
   simp only[JG,cC] at e2
   subst e2
   subst e3
   have hadd:(⟨g,0,none⟩:Addr).add j=⟨g,j,none⟩:=by unfold Addr.add;split <;> simp_all
   have hlen:=f4.1
   rw[mT] at hlen
   have hcell:∀i:Nat,w.cell? ((⟨g,0,none⟩:Addr).add i)=ys[i]?:=fun i=>by
    have:(⟨g,0,none⟩:Addr).add i=⟨g,i,none⟩:=by unfold Addr.add;split <;> simp_all
    rw[this,cell_of_row w g i ys ty (0,0) f3]
   cases b with
   | true=>
    simp only[UL,eP] at hsub
    split at hsub
    ·rename_i hle
     cases hsub
     have hl':((ys.toList.drop j).take n).length=n:=by simp;omega
     refine⟨.s (.agg ((cs.drop j).take n)),.agg ((ys.toList.drop j).take n).toArray,?_,⟨_,rfl,(f4.drop j).take n⟩,hk⟩
     simp only[Instr.loadAt,Instr.sureAddr,bO,iL,dM]
     rw[yJ hn hb hb1 hl' (fun i y hi=>?_)]
     ·simp
     ·rw[pW] at hi
      split at hi
      ·rw[tV] at hi
       rw[sU,hcell,←MK]
       exact hi
      ·cases hi
    ·cases hsub
   | false=>
    have hn1:=hb1 rfl
    subst hn1
    simp only[UL,pB,iK] at hsub
    cases hcc:cs[j]? with
    | none=>simp[hcc] at hsub
    | some c'=>
     simp only[hcc,fH,cC] at hsub
     subst hsub
     have hlt:j<cs.length:=(dA.1 hcc).1
     have hy:ys[j]?=some (ys[j]'(by omega)):=vL _
     refine⟨.s (.c c'),ys[j]'(by omega),?_,f4.2 j c' _ hcc (by rw[MK];exact hy),hk⟩
     simp only[Instr.loadAt,Instr.sureAddr,bO,iL,dM]
     rw[yJ (ys:=[ys[j]'(by omega)]) hn hb hb1 rfl (fun i y hi=>?_)]
     ·rfl
     ·cases i with
      | zero=>
       simp only[AT,cC] at hi
       rw[sU,rS,hcell,hy,hi]
      | succ i=>simp at hi
 | pe m x j=>
  dsimp only at hk
  split at hk
  case isFalse=>cases hk
  rename_i hle
  rcases hc with hc | ⟨⟨ad,rfl,hp⟩,_⟩
  ·cases hc
  ·obtain⟨ys,e1,e2,e3⟩:=hp.cells (ρ:=ρ) hle
   refine⟨_,_,?_,Ja e3 (fun e=>by rw[e1];exact hb1 e),hk⟩
   simp only[Instr.loadAt,Instr.sureAddr,bO,iL,dM]
   exact yJ hn hb hb1 e1 e2
 | ib key m i j=>
  dsimp only at hk
  split at hk
  case h_2=>cases hk
  rename_i fz e m' es hob
  split at hk
  case isFalse=>cases hk
  rename_i hle
  obtain⟨rfl,hle⟩:=hle
  obtain⟨x,hx,hk⟩:=bK hk
  rcases hc with hc | ⟨⟨hv,e1,ba,e2,e3⟩,_⟩
  ·cases hc
  ·obtain⟨hv',f1,f2⟩:=h.ae key _ hob
   rw[e1] at f1
   cases f1
   obtain⟨a',ys,g1,g2,g3,g4⟩:=Iy f2 (CR hx) hle
   rw[e2] at g1
   cases g1
   subst e3
   refine⟨_,_,?_,Ja g4 (fun e=>by rw[g2];exact hb1 e),hk⟩
   simp only[Instr.loadAt,Instr.sureAddr,bO,iL,dM]
   exact yJ hn hb hb1 g2 g3
 | kn key i=>
  dsimp only at hk
  split at hk
  case h_2=>cases hk
  rename_i K hK
  split at hk
  case h_2=>cases hk
  rename_i e0 e20 n0 l0 hob
  split at hk
  case isFalse=>cases hk
  rename_i hbf
  obtain⟨x,hx,hk9⟩:=bK hk
  clear hk
  subst hbf
  rcases hc with hc | ⟨⟨vs,hv,e1,e2,ba,e3,e4⟩,_⟩
  ·cases hc
  ·obtain⟨hole,e,e2',n',l,vs',q1,q2,q3,q4⟩:=DD h hK e1
   rw[hob] at q1
   cases q1
   obtain⟨h0,ho,hs,xs,g1,g2,g3,g4,g5,g6⟩:=q4
   cases g1
   rw[e2] at q3
   have hho:ho=hv:=by simpa using q3
   subst hho
   have hn1:=hb1 rfl
   subst hn1
   have hil:i<l0.length:=(dA.1 (CR hx)).1
   have hxl:=g2.1
   rw[MP] at hxl
   have hxi:xs[i]?=some xs[i]:=dG (by omega)
   have hhi:hs[i]?=some hs[i]:=dG (by omega)
   obtain⟨f1,f2⟩:=g4 i _ _ hxi hhi
   have f3:=f2 (by simp)
   refine⟨.s (.c (.fh K i)),xs[i],?_,ay.one (c:=.fh K i) ⟨_,q2,?_⟩ f1,hk9⟩
   ·simp only[Instr.loadAt,Instr.sureAddr,e4,bO,iL,dM]
    rw[yJ (ys:=[xs[i]]) hn hb hb1 rfl (fun q y hq=>?_)]
    ·rfl
    ·cases q with
     | zero=>
      simp only[AT,cC] at hq
      subst hq
      have hsl:∃len cap,ho=.slice (some ba) len cap:=by
       rcases g2.2 with⟨hn | ⟨a',hn⟩,hz⟩ | ⟨g,off,cap,jE,hn,_⟩
       ·omega
       ·omega
       ·subst hn;simp only[JG,cC] at e3;subst e3;exact⟨_,_,rfl⟩
      obtain⟨len,cap,hsl⟩:=hsl
      have:=g2.cells hsl i _ hxi
      rw[sU,rS]
      exact this
     | succ q=>simp at hq
   ·simp only[KZ,T1]
    rw[hhi,f3]
 | rk _=>cases hk
 | fh _ _=>cases hk
 | t x=>cases hk
 | row k'=>cases hk
 | fn f' cs'=>cases hk
 | self _=>cases hk
 | cut _ _ _ _ _=>cases hk
 | fg=>cases hk
 | top=>cases hk
end
def C.rs:C→List Nat
 | .row k=>[k]
 | .cut k _ _ _ _=>[k]
 | _=>[]
def sD{α:Type}:List (Option α)→Option (List α)
 | []=>some []
 | some a::l=>(sD l).map (a::·)
 | none::_=>none
def nM:O→O
 | .row _ e n l=>.row true e n l
 | .mp _ e n l=>.mp true e n l
 | o=>o
def ai(ae:List O):List Nat→List O
 | []=>ae
 | k::l=>match ae[k]? with
  | some o=>ai (ae.set k (nM o)) l
  | none=>ai ae l
theorem UR{α:Type}:∀{l:List (Option α)} {m:List α},sD l=some m→l=m.map some
 | [],m,h=>by simp only[sD,cC] at h;subst h;rfl
 | some a::l,m,h=>by
  simp only[sD] at h
  cases hs:sD l with
  | none=>simp[hs] at h
  | some q=>
   simp only[hs,fH,cC] at h
   subst h
   rw[UR hs];rfl
 | none::l,m,h=>by simp[sD] at h
theorem yK{α β:Type}{f:α→Option β}{l:List α}{m:List β}(h:sD (l.map f)=some m):m.length=l.length∧∀(i:Nat) a,l[i]?=some a→∃b,m[i]?=some b∧f a=some b:=by
 have e:=UR h
 have hl:m.length=l.length:=by have:=fL List.length e;simpa using this.symm
 refine⟨hl,fun i a hi=>?_⟩
 have:=fL (fun z=>z[i]?) e
 simp only[eW,hi,fH] at this
 cases hm:m[i]? with
 | none=>simp[hm] at this
 | some b=>simp only[hm,fH,cC] at this;exact⟨b,rfl,this⟩
theorem uZ{α β:Type}{f:α→Option β}{l:List α}{m:List β}(h:sD (l.map f)=some m)(i:Nat)(b:β)(hi:m[i]?=some b):∃a,l[i]?=some a∧f a=some b:=by
 obtain⟨hl,hg⟩:=yK h
 have hlt:i<l.length:=by rw[←hl];exact(dA.1 hi).1
 obtain⟨b',h1,h2⟩:=hg i _ (dG hlt)
 rw[hi] at h1
 cases h1
 exact⟨_,dG hlt,h2⟩
section
variable {P:Program} {w0 w w':World} {F Xc X:Nat→Prop} {ρ0:cn} {ρ:nT} {st:St} {a:Act}
theorem Has.freeze{ae:List O}{k j b:Nat}{o:O}(ho:ae[k]?=some o)(h:Has (ae.set k (nM o)) ρ j b):Has ae ρ j b∧(j=k→(∃l,o=.box l)∨∃hole e e2 n l,o=.rr hole e e2 n l):=by
 obtain⟨o',v,h1,h2,h3,h4⟩:=h
 have hlt:k<ae.length:=(dA.1 ho).1
 by_cases hj:k=j
 ·subst hj
  rw[iI hlt] at h1
  cases h1
  cases o with
  | box l=>exact⟨⟨_,v,ho,rfl,h3,h4⟩,fun _=>.inl ⟨l,rfl⟩⟩
  | rr hole e e2 n l=>exact⟨⟨_,v,ho,rfl,h3,h4⟩,fun _=>.inr ⟨_,_,_,_,_,rfl⟩⟩
  | fwd k=>simp[nM,O.live] at h2
  | row fz e n l=>simp[nM,O.live] at h2
  | mp fz e n l=>simp[nM,O.live] at h2
  | cu l=>simp[nM,O.live] at h2
  | dead=>simp[nM,O.live] at h2
  | fresh=>simp[nM,O.live] at h2
 ·rw[fC hj] at h1
  exact⟨⟨o',v,h1,h2,h3,h4⟩,fun e=>(hj e.symm).elim⟩
theorem Rel.kp(h:Rel w0 F Xc ρ0 ρ st a w){k:Nat}{o:O}(ho:st.ae[k]?=some o):Rel w0 F Xc ρ0 ρ { st with ae:=st.ae.set k (nM o) } a w:=by
 have hlt:k<st.ae.length:=(dA.1 ho).1
 have hX:∀b,XB (st.ae.set k (nM o)) ρ Xc b→XB st.ae ρ Xc b:=fun b hb=>by
  rcases hb with⟨j,hj⟩ | hb
  ·exact .inl ⟨j,(Has.freeze ho hj).1⟩
  ·exact .inr hb
 have hs:cf (fun _=>False) w w:=.refl _ w
 have hweak:∀{v:Value} {o':O},ct w (XB st.ae ρ Xc) ρ v o'→ct w (XB (st.ae.set k (nM o)) ρ Xc) ρ v o':=fun hh=>hh.step hs (fun _ h=>h.elim) (fun b hb=>.inl (hX b hb)) (.refl _) (fun _ _ h=>h)
 refine⟨h.len,fun i d y h1 h2=>(h.env i d y h1 h2).step hs (fun _ h=>h.elim) (fun b hb=>.inl (hX b hb)) (.refl _),fun j o' hj=>?_,fun j j' b hj hj'=>h.sep j j' b (Has.freeze ho hj).1 (Has.freeze ho hj').1,
  fun b hb=>by obtain⟨j,hj⟩:=hb;exact h.own b ⟨j,(Has.freeze ho hj).1⟩,h.par,h.defers,h.frame,h.jo,fun b hb=>by obtain⟨j,hj⟩:=hb;exact h.xc b ⟨j,(Has.freeze ho hj).1⟩,fun p hp=>(h.ext p hp).step hs (fun _ h=>h.elim) (fun b hb=>.inl (hX b hb)) (.refl _)⟩
 by_cases hjk:k=j
 ·subst hjk
  rw[iI hlt] at hj
  cases hj
  have hk:=h.ae k o ho
  cases o with
  | box l=>obtain⟨v,e1,e2⟩:=hk;exact⟨v,e1,hweak e2⟩
  | row fz e n l=>
   obtain⟨v,e1,e2⟩:=hk
   refine⟨v,e1,?_⟩
   obtain⟨q1,q2,q3,q4⟩:=hweak e2
   refine⟨q1,q2,q3,fun _ b hb hx=>?_⟩
   cases fz with
   | true=>exact q4 rfl b hb hx
   | false=>
    rcases hx with⟨j,hj⟩ | hx
    ·obtain⟨hj1,hj2⟩:=Has.freeze ho hj
     have hjk:=h.sep j k b hj1 ⟨_,v,ho,rfl,e1,.inl hb⟩
     rcases hj2 hjk with⟨l',hl'⟩ | ⟨_,_,_,_,_,hl'⟩ <;> cases hl'
    ·exact h.xc b ⟨k,_,v,ho,rfl,e1,.inl hb⟩ hx
  | mp fz e n l=>
   obtain⟨v,e1,e2⟩:=hk
   refine⟨v,e1,?_⟩
   obtain⟨q1,g,es,clock,q2,q3,q4,q5⟩:=hweak e2
   refine⟨q1,g,es,clock,q2,q3,q4,fun _ hx=>?_⟩
   have hb:bq v=some g:=by rw[q2];rfl
   cases fz with
   | true=>exact q5 rfl hx
   | false=>
    rcases hx with⟨j,hj⟩ | hx
    ·obtain⟨hj1,hj2⟩:=Has.freeze ho hj
     have hjk:=h.sep j k g hj1 ⟨_,v,ho,rfl,e1,.inl hb⟩
     rcases hj2 hjk with⟨l',hl'⟩ | ⟨_,_,_,_,_,hl'⟩ <;> cases hl'
    ·exact h.xc g ⟨k,_,v,ho,rfl,e1,.inl hb⟩ hx
  | cu l=>obtain⟨v,e1,e2⟩:=hk;exact⟨v,e1,hweak e2⟩
  | rr hole e e2 n l=>obtain⟨v,e1,e2⟩:=hk;exact⟨v,e1,hweak (o':=.rr hole e _ n l) e2⟩
  | fwd k=>exact hk
  | dead=>trivial
  | fresh=>exact hk
 ·rw[fC hjk] at hj
  have hk:=h.ae j o' hj
  cases o' with
  | box l=>obtain⟨v,e1,e2⟩:=hk;exact⟨v,e1,hweak e2⟩
  | row fz e n l=>obtain⟨v,e1,e2⟩:=hk;exact⟨v,e1,hweak e2⟩
  | mp fz e n l=>obtain⟨v,e1,e2⟩:=hk;exact⟨v,e1,hweak e2⟩
  | cu l=>obtain⟨v,e1,e2⟩:=hk;exact⟨v,e1,hweak e2⟩
  | rr hole e e2 n l=>obtain⟨v,e1,e2⟩:=hk;exact⟨v,e1,hweak (o':=.rr hole e _ n l) e2⟩
  | fwd k=>exact hk
  | dead=>trivial
  | fresh=>exact hk
theorem sE:∀(rows:List Nat) (ae:List O) (k:Nat) (fz:Bool) (e n:Nat) (l:List T),ae[k]?=some (.row fz e n l) →
 ∃fz',(ai ae rows)[k]?=some (.row fz' e n l)∧(fz=true∨k∈rows→fz'=true)
 | [],ae,k,fz,e,n,l,h=>⟨fz,h,fun hh=>hh.elim id (fun hm=>by simp at hm)⟩
 | q::rows,ae,k,fz,e,n,l,h=>by
  simp only[ai]
  split
  ·rename_i o ho
   by_cases hq:q=k
   ·subst hq
    rw[h] at ho
    cases ho
    obtain⟨fz',h1,h2⟩:=sE rows (ae.set q (nM (.row fz e n l))) q true e n l (by rw[iI (dA.1 h).1];rfl)
    exact⟨fz',h1,fun _=>h2 (.inl rfl)⟩
   ·obtain⟨fz',h1,h2⟩:=sE rows (ae.set q (nM o)) k fz e n l (by rw[fC hq];exact h)
    refine⟨fz',h1,fun hh=>h2 ?_⟩
    rcases hh with hh | hh
    ·exact .inl hh
    ·rcases cN.1 hh with hh | hh
     ·exact(hq hh.symm).elim
     ·exact .inr hh
  ·rename_i ho
   obtain⟨fz',h1,h2⟩:=sE rows ae k fz e n l h
   refine⟨fz',h1,fun hh=>h2 ?_⟩
   rcases hh with hh | hh
   ·exact .inl hh
   ·rcases cN.1 hh with hh | hh
    ·subst hh;rw[h] at ho;cases ho
    ·exact .inr hh
theorem xE:∀(rows:List Nat) (ae:List O) (k:Nat) (fz:Bool) (e n:Nat) (l:List T),ae[k]?=some (.mp fz e n l) →
 ∃fz',(ai ae rows)[k]?=some (.mp fz' e n l)∧(fz=true∨k∈rows→fz'=true)
 | [],ae,k,fz,e,n,l,h=>⟨fz,h,fun hh=>hh.elim id (fun hm=>by simp at hm)⟩
 | q::rows,ae,k,fz,e,n,l,h=>by
  simp only[ai]
  split
  ·rename_i o ho
   by_cases hq:q=k
   ·subst hq
    rw[h] at ho
    cases ho
    obtain⟨fz',h1,h2⟩:=xE rows (ae.set q (nM (.mp fz e n l))) q true e n l (by rw[iI (dA.1 h).1];rfl)
    exact⟨fz',h1,fun _=>h2 (.inl rfl)⟩
   ·obtain⟨fz',h1,h2⟩:=xE rows (ae.set q (nM o)) k fz e n l (by rw[fC hq];exact h)
    refine⟨fz',h1,fun hh=>h2 ?_⟩
    rcases hh with hh | hh
    ·exact .inl hh
    ·rcases cN.1 hh with hh | hh
     ·exact(hq hh.symm).elim
     ·exact .inr hh
  ·rename_i ho
   obtain⟨fz',h1,h2⟩:=xE rows ae k fz e n l h
   refine⟨fz',h1,fun hh=>h2 ?_⟩
   rcases hh with hh | hh
   ·exact .inl hh
   ·rcases cN.1 hh with hh | hh
    ·subst hh;rw[h] at ho;cases ho
    ·exact .inr hh
theorem Rel.freeze(rows:List Nat):∀{st:St},Rel w0 F Xc ρ0 ρ st a w→Rel w0 F Xc ρ0 ρ { st with ae:=ai st.ae rows } a w:=by
 induction rows with
 | nil=>intro st h;exact h
 | cons q rows ih=>
  intro st h
  simp only[ai]
  split
  ·rename_i o ho
   exact ih (h.kp ho)
  ·exact ih h
theorem LH:∀(rows:List Nat) (ae:List O) (b:Nat),XB (ai ae rows) ρ Xc b→XB ae ρ Xc b
 | [],_,_,h=>h
 | q::rows,ae,b,h=>by
  simp only[ai] at h
  split at h
  ·rename_i o ho
   rcases LH rows _ b h with⟨j,hj⟩ | hb
   ·exact .inl ⟨j,(Has.freeze ho hj).1⟩
   ·exact .inr hb
  ·exact LH rows ae b h
def O.mj:O→Bool
 | .row _ _ _ _=>true
 | .mp _ _ _ _=>true
 | _=>false
def O.jc:O→Bool
 | .row fz _ _ _=>!fz
 | .mp fz _ _ _=>!fz
 | .rr none _ _ _ _=>true
 | _=>false
def O.frozen:O→Bool
 | .row fz _ _ _=>fz
 | .mp fz _ _ _=>fz
 | _=>false
def O.oa:O→Bool
 | .row _ _ _ _=>true
 | .mp _ _ _ _=>true
 | .rr none _ _ _ _=>true
 | _=>false
theorem O.js{o:O}(h:o.oa=true)(hf:o.frozen=false):o.live=true:=by
 cases o <;> first | rfl | (cases h;done) | (simp only[O.frozen] at hf;subst hf;rfl)
theorem O.jd{o:O}(h:o.jc=true):o.live=true:=by cases o <;> first | exact h | rfl | cases h
theorem IM(e:TypeId)(n:Nat)(l:List T):(SC e n l).jc=true:=by unfold SC;split <;> rfl
theorem Ag{rows:List Nat}{ae:List O}{k:Nat}{o:O}(h:ae[k]?=some o)(ho:o.mj=true)(hk:k∈rows):∃o',(ai ae rows)[k]?=some o'∧o'.frozen=true:=by
 cases o with
 | row fz e n l=>
  obtain⟨fz',h1,h2⟩:=sE rows ae k fz e n l h
  exact⟨_,h1,h2 (.inr hk)⟩
 | mp fz e n l=>
  obtain⟨fz',h1,h2⟩:=xE rows ae k fz e n l h
  exact⟨_,h1,h2 (.inr hk)⟩
 | box l=>cases ho
 | cu l=>cases ho
 | rr hole e e2 n l=>cases ho
 | fwd k=>cases ho
 | dead=>cases ho
 | fresh=>cases ho
theorem ct.frozen{X:Nat→Prop}{v:Value}{o:O}(h:ct w X ρ v o)(hf:o.frozen=true):∀b,bq v=some b→¬X b:=by
 intro b hb
 cases o with
 | row fz e n l=>exact h.2.2.2 hf b hb
 | mp fz e n l=>
  obtain⟨_,g,es,clock,q2,_,_,q5⟩:=h
  rw[q2] at hb
  simp only[bq,cC] at hb
  exact hb▸q5 hf
 | box l=>cases hf
 | cu l=>cases hf
 | rr hole e e2 n l=>cases hf
 | fwd k=>cases hf
 | dead=>cases hf
 | fresh=>cases hf
def Jd(ae:List O):C→Option C
 | .row key=>match ae[key]? with
  | some (.row _ _ n es)=>some (.t (.sl n es))
  | some (.mp _ _ n es)=>some (.t (.sl n es))
  | _=>none
 | .cut key n lo len _=>match ae[key]? with
  | some (.row _ _ n' es)=>if n'=n then some (.t (.sl n (oC es lo len))) else none
  | _=>none
 | c=>some c
def RI(ae:List O)(cs:List C):Option (List O×List C):=(sD (cs.map (Jd ae))).map fun l=>(ai ae (cs.flatMap C.rs),l)
theorem US{objs':List O}{cs cs':List C}{ys:List Value}(h:Rel w0 F Xc ρ0 ρ st a w)(hl:bu w (XB st.ae ρ Xc) ρ cs ys)(hk:RI st.ae cs=some (objs',cs')):
 Rel w0 F Xc ρ0 ρ { st with ae:=objs' } a w∧bu w (XB objs' ρ Xc) ρ cs' ys:=by
 unfold RI at hk
 cases hs:sD (cs.map (Jd st.ae)) with
 | none=>simp[hs] at hk
 | some l=>
  simp only[hs,fH,cC,yH] at hk
  obtain⟨rfl,rfl⟩:=hk
  have hR:=h.freeze (cs.flatMap C.rs)
  refine⟨hR,?_⟩
  obtain⟨q1,q2⟩:=yK hs
  refine⟨hl.1.trans q1.symm,fun i c y h1 h2=>?_⟩
  obtain⟨c0,g1,g2⟩:=uZ hs i c h1
  have hy:=hl.2 i c0 y g1 h2
  have hX:∀b,XB (ai st.ae (cs.flatMap C.rs)) ρ Xc b→XB st.ae ρ Xc b:=LH (cs.flatMap C.rs) st.ae
  have hweak:ch w (XB (ai st.ae (cs.flatMap C.rs)) ρ Xc) ρ c0 y:=hy.step (cf.refl (fun _=>False) w) (fun _ h=>h.elim) (fun b hb=>.inl (hX b hb)) (.refl _)
  unfold Jd at g2
  split at g2
  ·rename_i key
   split at g2
   ·rename_i fz e n es hob
    cases g2
    obtain⟨fz',f1,f2⟩:=sE (cs.flatMap C.rs) st.ae key fz e n es hob
    have hfz:=f2 (.inr (JC.2 ⟨_,mS g1,by simp[C.rs]⟩))
    subst hfz
    obtain⟨v,e1,e2⟩:=hR.ae key _ f1
    rcases hweak with hc | ⟨hc,h1'⟩
    ·cases hc
    ·have hcc:ρ key=some y:=hc
     rw[hcc] at e1
     cases e1
     exact .inr ⟨JK e2 (fun b hb=>hb) (fun b hb=>e2.2.2.2 rfl b hb),h1'⟩
   ·rename_i fz e n es hob
    cases g2
    obtain⟨fz',f1,f2⟩:=xE (cs.flatMap C.rs) st.ae key fz e n es hob
    have hfz:=f2 (.inr (JC.2 ⟨_,mS g1,by simp[C.rs]⟩))
    subst hfz
    obtain⟨v,e1,e2⟩:=hR.ae key _ f1
    rcases hweak with hc | ⟨hc,h1'⟩
    ·cases hc
    ·have hcc:ρ key=some y:=hc
     rw[hcc] at e1
     cases e1
     refine .inr ⟨UN e2 (fun b hb=>hb) (fun b hb=>?_),h1'⟩
     obtain⟨_,g,es',clock,q2,_,_,q5⟩:=e2
     rw[q2] at hb
     simp only[bq,cC] at hb
     exact hb▸q5 rfl
   ·cases g2
  ·rename_i key n lo len tg
   split at g2
   ·rename_i fz e n' es hob
    split at g2
    ·rename_i hn
     subst hn
     cases g2
     obtain⟨fz',f1,f2⟩:=sE (cs.flatMap C.rs) st.ae key fz e n' es hob
     have hfz:=f2 (.inr (JC.2 ⟨_,mS g1,by simp[C.rs]⟩))
     subst hfz
     obtain⟨v,e1,e2⟩:=hR.ae key _ f1
     rcases hweak with hc | ⟨⟨v',q1,q2⟩,h1'⟩
     ·cases hc
     ·rw[q1] at e1
      cases e1
      exact .inr ⟨O2 e2 q2 (fun b hb=>hb) (fun b hb=>e2.2.2.2 rfl b hb),h1'⟩
    ·cases g2
   ·cases g2
  ·cases g2;exact hweak
end
section
variable {R:Type} (P:Program)
def Xe{R:Type}(u:Option TypeDesc)(cs:List C)(k:List T→Option R):Option R:=match u,cs with
 | some (.int kd),[.t x]=>ob (x.int? kd) fun n=>k [.v (.int kd n)]
 | some .bool,[.t x]=>ob x.bool? fun b=>k [.v (.bool b)]
 | some .string,[.t x]=>ob x.ik fun s=>k [.v (.string s)]
 | _,cs=>match GY cs with
  | some ts=>k ts
  | none=>none
def MT{R:Type}(P:Program)(t:TypeId)(c:C)(k:T→Option R):Option R:=match P.underlying t,c with
 | some (.int kd),.t x=>ob (x.int? kd) fun n=>k (.v (.int kd n))
 | some .bool,.t x=>ob x.bool? fun b=>k (.v (.bool b))
 | some .string,.t x=>ob x.ik fun s=>k (.v (.string s))
 | some (.slice e),.t x=>match MS P e with
  | some n=>if n<1000000000 then ob (x.il n) fun l=>k (.sl n l) else none
  | none=>none
 | _,c=>match c.iz with
  | some x=>k x
  | none=>none
def oW{R:Type}(P:Program):List TypeId→List C→(List T→Option R)→Option R
 | [],[],k=>k []
 | t::ts,c::cs,k=>MT P t c fun x=>oW P ts cs fun xs=>k (x::xs)
 | _,_,_=>none
theorem Jb{R:Type}{P:Program}{w:World}{X:Nat→Prop}{ρ:nT}{t:TypeId}{c:C}{y:Value}{k:T→Option R}{r:R}(h:ch w X ρ c y)(hk:MT P t c k=some r):
 ∃x,k x=some r∧Rd w X x y∧y.oneCell'=true∧∀l,x≠.agg l:=by
 unfold MT at hk
 split at hk
 ·obtain⟨n,hn,hk1⟩:=bK hk
  rcases h with h | ⟨h,h1⟩
  ·cases h
  ·have:=Ad h hn;subst this;exact⟨_,hk1,.v _,rfl,fun l e=>by cases e⟩
 ·obtain⟨n,hn,hk1⟩:=bK hk
  rcases h with h | ⟨h,h1⟩
  ·cases h
  ·have:=UK h hn;subst this;exact⟨_,hk1,.v _,rfl,fun l e=>by cases e⟩
 ·obtain⟨n,hn,hk1⟩:=bK hk
  rcases h with h | ⟨h,h1⟩
  ·cases h
  ·have:=Ae h hn;subst this;exact⟨_,hk1,.v _,rfl,fun l e=>by cases e⟩
 ·split at hk
  case h_2=>cases hk
  rename_i n hn
  split at hk
  case isFalse=>cases hk
  rename_i hnm
  obtain⟨l,hl,hk1⟩:=bK hk
  rcases h with h | ⟨h,h1⟩
  ·cases h
  ·unfold T.il at hl
   split at hl
   ·rw[aC hnm] at hl
    cases hl
    have:=Rd.cq h
    subst this
    exact⟨_,hk1,.nil n hnm,rfl,fun l e=>by cases e⟩
   ·split at hl
    ·rename_i hkk
     cases hl;subst hkk
     exact⟨_,hk1,h,h1,fun l e=>by cases e⟩
    ·cases hl
   ·cases hl
 ·split at hk
  ·rename_i x hx
   obtain⟨rfl,hn⟩:=WR hx
   rcases h with h | ⟨h,h1⟩
   ·cases h
   ·exact⟨_,hk,h,h1,hn⟩
  ·cases hk
theorem GZ{R:Type}{P:Program}{w:World}{X:Nat→Prop}{ρ:nT}{r:R}:∀{ts:List TypeId} {cs:List C} {ys:List Value} {k:List T→Option R},bu w X ρ cs ys→oW P ts cs k=some r →
 ∃xs,k xs=some r∧xs.length=cs.length∧dk w X xs ys∧∀t∈xs,∀l,t≠.agg l
 | [],[],ys,k,h,hk=>⟨[],hk,rfl,⟨by simpa using h.1,fun i t y h1 _=>by simp at h1⟩,by simp⟩
 | [],_::_,ys,k,h,hk=>by simp[oW] at hk
 | _::_,[],ys,k,h,hk=>by simp[oW] at hk
 | t::ts,c::cs,ys,k,h,hk=>by
  cases ys with
  | nil=>have:=h.1;simp at this
  | cons y ys=>
   simp only[oW] at hk
   have htail:bu w X ρ cs ys:=⟨by simpa using h.1,fun i c y h1 h2=>h.2 (i+1) c y (by simpa using h1) (by simpa using h2)⟩
   obtain⟨x,hk1,hx,h1,hn⟩:=Jb (h.2 0 _ y rfl rfl) hk
   obtain⟨xs,e1,e2,e3,e4⟩:=GZ htail hk1
   refine⟨x::xs,e1,by simp[e2],⟨by simpa using e3.1,fun i t y' a1 a2=>?_⟩,?_⟩
   ·cases i with
    | zero=>simp at a1 a2;subst a1;subst a2;exact⟨hx,h1⟩
    | succ i=>exact e3.2 i t y' (by simpa using a1) (by simpa using a2)
   ·intro t ht
    rcases cN.1 ht with rfl | ht
    ·exact hn
    ·exact e4 t ht
@[irreducible] def Ri(a b:Nat):Option Unit:=if a=b then some () else none
theorem WU{a b:Nat}{x:Unit}(h:Ri a b=some x):a=b:=by
 unfold Ri at h
 split at h
 ·assumption
 ·cases h
def AW(st:St)(t:TypeId)(d v:D)(k:St→Option R):Option R:=
 match MS P t,FE v with
 | some n,some cs=>if cs.length=n∧cs.all Ya=true then AI d fun c=>match c with
  | .box key j=>match st.ae[key]? with
   | some (.box l)=>if j+n≤l.length∧(0<j∨UI (l.take j++cs++l.drop (j+n))=none) then k { st with ae:=st.ae.set key (.box (l.take j++cs++l.drop (j+n))) } else none
   | _=>none
  | .ib key m i j=>match RI st.ae cs with
   | some q=>match q.1[key]? with
    | some (.row false e m' es)=>oW P ((P.cellTypes P.depth t).getD []) q.2 fun ts=>if m=m'∧j+n≤m then ob (aS es i) fun x=>k { st with ae:=q.1.set key (.row false e m (es.set i (x.aw m j ts))) } else none
    | _=>none
   | none=>none
  | .kn key i=>match BO st.ae 64 key,cs with
   | some K,[.fh k3 i3]=>match st.ae[K]? with
    | some (.rr (some hi) e e2 m l)=>if k3=K then ob (Ri i i3) fun _=>ob (Ri hi i) fun _=>ob (aS l i) fun _=>k { st with ae:=st.ae.set K (.rr none e e2 m l) } else none
    | _=>none
   | _,_=>none
  | _=>none
  else none
 | _,_=>none
def uG:Option O→Bool
 | some .fresh=>true
 | _=>false
def AX(st:St):Option Nat:=((List.range st.ae.length).filter fun i=>decide (st.np≤i)&&uG st.ae[i]?).head?
def qV(st:St)(dst:Option Nat)(o:O)(k:St→Nat→Option R):Option R:=
 match dst with
 | some d=>match st.ae[st.np+d]? with
  | some .fresh=>k { st with ae:=st.ae.set (st.np+d) o } (st.np+d)
  | _=>match st.ae[st.np+(st.env.length+d)]? with
   | some .fresh=>k { st with ae:=st.ae.set (st.np+(st.env.length+d)) o } (st.np+(st.env.length+d))
   | _=>match AX st with
    | some K=>k { st with ae:=st.ae.set K o } K
    | none=>none
 | none=>none
end
theorem xD(w:World)(g:Nat)(cs:Array Value):cf (fun b=>b=g) w (w.setRow g cs):=
 ⟨rfl,rfl,rfl,by simp,fun b _ hb=>setRow_other w g b cs hb⟩
def aw(ρ:nT)(k:Nat)(h:Value):nT:=fun j=>if j=k then some h else ρ j
section
variable {R:Type} {P:Program} {w0 w w':World} {F Xc:Nat→Prop} {ρ0:cn} {ρ:nT} {st:St} {a:Act} {r:R}
theorem Rel.ko(h:Rel w0 F Xc ρ0 ρ st a w):Rel w0 F Xc ρ0 ρ { st with ae:=st.ae } a w:=h
theorem Rel.mh(h:Rel w0 F Xc ρ0 ρ st a w){key:Nat}{o:O}{hv:Value}(hf:st.ae[key]?=some .fresh)(hs:cf (fun _=>False) w w')
 (hb:∀b,de hv b→w.heap.size≤b)
 (hok:∀X',(∀b,X' b→XB st.ae ρ Xc b∨w.heap.size≤b)→ct w' X' (aw ρ key hv) hv o) (hnp:st.np≤key) (hof:o≠.fresh):
 Rel w0 F Xc ρ0 (aw ρ key hv) { st with ae:=st.ae.set key o } a w':=by
 have hnone:ρ key=none:=h.ae key _ hf
 have hlt:key<st.ae.length:=(dA.1 hf).1
 have hρ:fu ρ (aw ρ key hv):=fun j v hj=>by
  unfold aw
  split
  ·rename_i e;subst e;rw[hnone] at hj;cases hj
  ·exact hj
 have hH:∀b,Has (st.ae.set key o) (aw ρ key hv) key b→de hv b:=fun b hh=>by
  obtain⟨o',v,g1,g2,h3,h4⟩:=hh
  simp only[aw,eP,cC] at h3
  exact h3▸h4
 refine h.change (st.ae.set key o) (aw ρ key hv) (·=key) hs (fun j hj=>⟨by rw[fC (fun e=>hj e.symm)],by unfold aw;rw[aA hj]⟩) hρ (fun _ hb=>hb.elim)
  (fun j b hj hh=>?_) (fun j j' b hj hj' _ _=>hj.trans hj'.symm) (fun hX j o' hj ho=>?_) (fun j hj=>by unfold aw;rw[aA (by omega)])
 ·subst hj;exact .inr (hb b (hH b hh))
 ·subst hj
  rw[iI hlt] at ho
  cases ho
  have hk:=hok _ hX
  unfold Ut
  split
  ·trivial
  ·exact(hof rfl).elim
  ·exact⟨hv,by simp[aw],hk⟩
theorem Rel.new(h:Rel w0 F Xc ρ0 ρ st a w){key:Nat}{o:O}{hv:Value}(hf:st.ae[key]?=some .fresh)(hs:cf (fun _=>False) w w')
 (hb:∀b,bq hv=some b→w.heap.size≤b)
 (hok:∀X',(∀b,X' b→XB st.ae ρ Xc b∨w.heap.size≤b)→ct w' X' (aw ρ key hv) hv o) (hnp:st.np≤key) (hof:o≠.fresh) (h1:hv.oneCell'=true:=by first | rfl | exact rowAt.one (by assumption)):
 Rel w0 F Xc ρ0 (aw ρ key hv) { st with ae:=st.ae.set key o } a w':=h.mh hf hs (fun b hb'=>hb b (hb'.one h1)) hok hnp hof
theorem Rel.lj(h:Rel w0 F Xc ρ0 ρ st a w){key:Nat}{cs:List C}{ys:Array Value}(e:TypeId)(hf:st.ae[key]?=some .fresh)(hl:bu w (XB st.ae ρ Xc) ρ cs ys.toList)(hhd:cz cs w.heap.size ys e)(hnp:st.np≤key):
 ∃ρ',Rel w0 F Xc ρ0 ρ' { st with ae:=st.ae.set key (.box cs) } a (w.alloc (.cells ys e))∧fu ρ ρ'∧ρ' key=some (.pointer (some ⟨w.heap.size,0,none⟩)):=by
 have hnone:ρ key=none:=h.ae key _ hf
 have hρ:fu ρ (aw ρ key (.pointer (some ⟨w.heap.size,0,none⟩))):=fun j v hj=>by
  unfold aw
  split
  ·rename_i e;subst e;rw[hnone] at hj;cases hj
  ·exact hj
 refine⟨_,h.new (hv:=.pointer (some ⟨w.heap.size,0,none⟩)) hf (cf.alloc _ _ _) (fun b hb=>by simp only[bq,cC] at hb;omega) (fun X' hX=>?_) hnp (by simp),hρ,by simp[aw]⟩
 exact⟨w.heap.size,ys,e,rfl,OL w _,hhd,hl.step (cf.alloc (fun _=>False) _ _) (fun _ hb=>False.elim hb) hX hρ⟩
theorem MU{st:St}{K:Nat}(h:AX st=some K):st.np≤K∧st.ae[K]?=some .fresh:=by
 unfold AX at h
 have hm:=T2 h
 obtain⟨_,h2⟩:=CO.1 hm
 simp only[cM,cK] at h2
 refine⟨h2.1,?_⟩
 have:=h2.2
 unfold uG at this
 split at this
 ·rename_i ho;exact ho
 ·cases this
theorem DE{dst:Option Nat}{o:O}{k:St→Nat→Option R}(hk:qV st dst o k=some r):
 ∃d,True∧st.ae[st.np+d]?=some .fresh∧k { st with ae:=st.ae.set (st.np+d) o } (st.np+d)=some r:=by
 unfold qV at hk
 split at hk
 ·split at hk
  ·exact⟨_,trivial,by assumption,hk⟩
  ·split at hk
   ·exact⟨_,trivial,by assumption,hk⟩
   ·split at hk
    ·rename_i K hK
     obtain⟨h1,h2⟩:=MU hK
     obtain⟨q,rfl⟩:∃q,K=st.np+q:=⟨K-st.np,by omega⟩
     exact⟨q,trivial,h2,hk⟩
    ·cases hk
 ·cases hk
theorem Rel.ll(h:Rel w0 F Xc ρ0 ρ st a w){key:Nat}{l l':List C}{hv:Value}{g:Nat}{ys zs:Array Value}{ty:TypeId}(ho:st.ae[key]?=some (.box l))(hh:ρ key=some hv)
 (hg:hv=.pointer (some ⟨g,0,none⟩)) (hw:w.heap[g]?=some (.cells ys ty (0,0))) (hhd:cz l' g zs ty) (hl:bu w (XB st.ae ρ Xc) ρ l' zs.toList):
 Rel w0 F Xc ρ0 ρ { st with ae:=st.ae.set key (.box l') } a (w.setRow g zs):=by
 have hlt:key<st.ae.length:=(dA.1 ho).1
 have hblk:bq hv=some g:=by rw[hg];rfl
 have hHas:Has st.ae ρ key g:=⟨_,hv,ho,rfl,hh,.inl hblk⟩
 have hH:∀b,Has (st.ae.set key (.box l')) ρ key b→b=g:=fun b hb=>by
  obtain⟨o',v,_,_,h3,h4⟩:=hb
  rw[hh] at h3
  cases h3
  replace h4:=h4.one (by rw[hg];rfl)
  rw[hblk] at h4
  cases h4
  rfl
 refine h.change _ ρ (·=key) (xD w g zs) (fun j hj=>⟨by rw[fC (fun e=>hj e.symm)],rfl⟩) (.refl _) (fun b hb=>⟨key,rfl,hb▸hHas⟩)
  (fun j b hj hb=>?_) (fun j j' b hj hj' _ _=>hj.trans hj'.symm) (fun hX j o' hj ho'=>?_) (fun _ _=>rfl)
 ·subst hj
  exact .inl ⟨_,rfl,hH b hb▸hHas⟩
 ·subst hj
  rw[iI hlt] at ho'
  cases ho'
  refine⟨hv,hh,g,zs,ty,hg,ZN w g ys zs ty (0,0) hw,hhd,hl.step (xD w g zs) (fun b hb=>?_) hX (.refl _)⟩
  exact .inl ⟨_,hb▸hHas⟩
theorem DF{t:TypeId}{n:Nat}{g j:Nat}{v:Value}{jE:Array Value}{ty:TypeId}(hn:MS P t=some n)(hv:v.cells.size=n)(hg:w.heap[g]?=some (.cells jE ty (0,0)))
 (hfit:j+n≤jE.size) (h1:∀x∈v.cells.toList,x.oneCell'=true):
 (storeVar t ⟨g,j,none⟩ v).run P w=.ok () (w.setRow g (jE.toList.take j++v.cells.toList++jE.toList.drop (j+n)).toArray):=by
 unfold storeVar
 simp only[bO,iT hn,dM]
 rw[aA (by simp[hv])]
 have:=run_storeCells_at P g j ty v.cells.toList 0 jE w hg (by rw[mT];omega) h1
 simp only[rS,mT,hv] at this
 exact this
theorem HW{α:Type}(l:List α)(j n:Nat)(m:List α)(h:j+n≤l.length)(hm:m.length=n):(l.take j++m++l.drop (j+n)).length=l.length:=by
 simp;omega
theorem Jc{n:Nat}{l:List T}(hu:dr n l){i j:Nat}{x:T}(hi:l[i]?=some x){ts:List T}(hj:j+ts.length≤n)(ht:∀t∈ts,∀m,t≠.agg m)
 (hx:∀t∈x.cells,∀m,t≠.agg m):
 dr n (l.set i (x.aw n j ts))∧flat (l.set i (x.aw n j ts))=(flat l).take (i*n+j)++ts++(flat l).drop (i*n+j+ts.length):=by
 have hxn:x.cells.length=n:=hu x (mS hi)
 obtain⟨hlt,rfl⟩:=dA.1 hi
 have hcells:∀t∈(l[i].cells.take j++ts++l[i].cells.drop (j+ts.length)),∀m,t≠.agg m:=by
  intro t htm
  simp only[fK] at htm
  rcases htm with(htm | htm) | htm
  ·exact hx t (IE htm)
  ·exact ht t htm
  ·exact hx t (TX htm)
 have hcl:(l[i].aw n j ts).cells=l[i].cells.take j++ts++l[i].cells.drop (j+ts.length):=by
  unfold T.aw
  exact LG (by simp;omega) hcells
 constructor
 ·intro t htm
  rcases List.mem_or_eq_of_mem_set htm with h | rfl
  ·exact hu t h
  ·rw[hcl];simp;omega
 ·rw[ZO,aC hlt,yI,rH,hcl]
  have e1:=hu.dd i
  have e2:=hu.cr (i+1)
  have e3:=hu.cr i
  rw[ZL hlt,rH] at e3
  rw[e1,e2]
  have hle:i*n+n≤(flat l).length:=by
   rw[hu.length]
   have:(i+1)*n≤l.length*n:=E9 _ hlt
   rw[tU] at this;omega
  have c1:l[i].cells.take j=((flat l).drop (i*n)).take j:=by
   rw[←e3,List.take_append_of_le_length (by omega)]
  have c2:l[i].cells.drop (j+ts.length)=((flat l).drop (i*n+j+ts.length)).take (n-(j+ts.length)):=by
   have:=fL (fun z=>z.drop (j+ts.length)) e3
   simp only[OM] at this
   rw[ZP (by omega)] at this
   rw[show i*n+j+ts.length=i*n+(j+ts.length) by omega,←this,List.take_append_of_le_length (by simp;omega),IF (by simp;omega)]
  rw[c1,c2]
  have f1:(flat l).take (i*n)++((flat l).drop (i*n)).take j=(flat l).take (i*n+j):=by rw[List.take_add]
  have f2:((flat l).drop (i*n+j+ts.length)).take (n-(j+ts.length))++(flat l).drop ((i+1)*n)=(flat l).drop (i*n+j+ts.length):=by
   have hsp:=List.take_append_drop (n-(j+ts.length)) ((flat l).drop (i*n+j+ts.length))
   rw[OM] at hsp
   rw[show i*n+j+ts.length+(n-(j+ts.length))=(i+1)*n by rw[tU];omega] at hsp
   exact hsp
  simp only[JD]
  rw[←JD,f1,f2]
theorem dk.mi{X:Nat→Prop}{l:List T}{ys:List Value}(h:dk w X l ys):∀t∈l,∀m,t≠.agg m:=by
 rintro t ht m rfl
 obtain⟨i,hi,he⟩:=CN ht
 have hl:=h.1
 have:=h.2 i _ (ys[i]'(by omega)) (dG hi) (dG _)
 rw[he] at this
 obtain⟨h1,h2⟩:=this
 generalize ys[i]'(by omega)=y at h1 h2
 cases h1
 simp[Value.oneCell'] at h2
theorem dk.splice{X:Nat→Prop}{l m:List T}{ys zs:List Value}(h:dk w X l ys)(h':dk w X m zs){p:Nat}(hp:p+m.length≤l.length):
 dk w X (l.take p++m++l.drop (p+m.length)) (ys.take p++zs++ys.drop (p+m.length)):=by
 have hl:=h.1
 have hl':=h'.1
 refine⟨by simp;omega,fun i t y h1 h2=>?_⟩
 simp only[JD] at h1 h2
 rw[sC] at h1 h2
 simp only[mU] at h1 h2
 rw[show min p l.length=p by omega] at h1
 rw[show min p ys.length=p by omega] at h2
 by_cases c1:i<p
 ·rw[aC c1,pW,aC c1] at h1
  rw[aC c1,pW,aC c1] at h2
  exact h.2 i t y h1 h2
 ·rw[aA c1,sC] at h1
  rw[aA c1,sC] at h2
  by_cases c2:i-p<m.length
  ·rw[aC c2] at h1
   rw[aC (by omega)] at h2
   exact h'.2 _ t y h1 h2
  ·rw[aA c2,tV] at h1
   rw[aA (by omega),tV,hl'] at h2
   exact h.2 _ t y h1 h2
theorem WW{α:Type}(l m:List α)(p q:Nat)(h:p+m.length≤q)(hq:q≤l.length):
 (l.take p++m++l.drop (p+m.length)).take q=(l.take q).take p++m++(l.take q).drop (p+m.length):=by
 rw[ZK,IF (by simp;omega),List.take_take,show min p q=p by omega,ON]
 simp only[tT,mU]
 rw[show q-(min p l.length+m.length)=q-(p+m.length) by omega]
theorem WX{α:Type}(l m:List α)(o p q:Nat)(h:o+p≤l.length):(l.take (o+p)++m++l.drop (o+p+q)).drop o=(l.drop o).take p++m++(l.drop o).drop (p+q):=by
 have h1:(l.take (o+p)).drop o=(l.drop o).take p:=by rw[ON];congr 1;omega
 have h2:l.drop (o+p+q)=(l.drop o).drop (p+q):=by rw[OM];congr 1;omega
 rw[JD,ZP (by rw[mU];omega),h1,h2,JD]
theorem Sk{α:Type}(l:List α)(off n i:Nat)(v:α)(hi:i<n)(hl:off+n≤l.length):((l.take (off+i)++[v]++l.drop (off+i+1)).drop off).take n=((l.drop off).take n).set i v:=by
 have e:l.take (off+i)++[v]++l.drop (off+i+1)=l.set (off+i) v:=by
  rw[ZO,aC (by omega)];simp
 rw[e]
 apply HR
 intro j
 rw[pW,tV,qU,qU,pW,tV,mU,MO]
 by_cases h1:i=j
 ·subst h1
  rw[aC hi,aC rfl,aC (by omega),aC rfl,aC (by omega)]
 ·rw[aA (show ¬(off+i=off+j) by omega),aA h1]
theorem Rel.jr(h:Rel w0 F Xc ρ0 ρ st a w){K i:Nat}{e e2:TypeId}{m:Nat}{l:List (List T)}{vs:Array Value}{ho v:Value}{ad:Addr}(hob:st.ae[K]?=some (.rr (some i) e e2 m l))(hK:ρ K=some (.tuple vs))
 (hh:vs[0]?=some ho) (hi:vs[i+1]?=some v) (h1:v.oneCell'=true) (hil:i<l.length) (hba:JG ho=some ad) {t:TypeId} (hn:MS P t=some 1) {vv:Value} (hvc:vv.cells.toList=[v]):
 ∃w',(storeVar t (ad.add i) vv).run P w=.ok () w'∧Rel w0 F Xc ρ0 ρ { st with ae:=st.ae.set K (.rr none e e2 m l) } a w':=by
 obtain⟨hv',e1,h0,ho',hs,xs,g1,g2,g3,g4,g5,g6⟩:=h.ae K _ hob
 rw[hK] at e1
 cases e1
 cases g1
 have:ho'=ho:=by simpa using hh
 subst this
 have hsi:hs[i]?=some v:=by simpa using hi
 have hrow:=g2
 have hxl:=g2.1
 rw[MP] at hxl
 rcases g2.2 with⟨_,hz⟩ | ⟨g,off,cap,jE,z1,z2,z3,z4,z5,z6,z7⟩
 ·omega
 have had:ad=⟨g,off,none⟩:=by rw[z1] at hba;simpa[JG] using hba.symm
 subst had
 have hadd:(⟨g,off,none⟩:Addr).add i=⟨g,off+i,none⟩:=by unfold Addr.add;split <;> simp_all
 have hrun:=DF (P:=P) (t:=t) (v:=vv) (j:=off+i) hn (by rw[←mT,hvc];rfl) z3 (by omega) (fun x hx=>by rw[hvc] at hx;simp at hx;rw[hx];exact h1)
 rw[hvc] at hrun
 refine⟨_,by rw[hadd];exact hrun,?_⟩
 have hlt:K<st.ae.length:=(dA.1 hob).1
 have hblk:bq ho'=some g:=by rw[z1];simp[bq];omega
 have hHas:Has st.ae ρ K g:=⟨_,_,hob,rfl,hK,.inr ⟨_,rfl,ho',by simp,hblk⟩⟩
 have hstp:=xD w g (jE.toList.take (off+i)++[v]++jE.toList.drop (off+i+1)).toArray
 refine h.change _ ρ (·=K) hstp (fun jj hj=>⟨by rw[fC (fun e=>hj e.symm)],rfl⟩) (.refl _) (fun b hb=>⟨K,rfl,hb▸hHas⟩)
  (fun jj b hj hb=>?_) (fun jj j' b hj hj' _ _=>hj.trans hj'.symm) (fun hX jj o' hj ho2=>?_) (fun _ _=>rfl)
 ·subst hj
  obtain⟨o',v',_,_,q3,q4⟩:=hb
  exact .inl ⟨_,rfl,_,v',hob,rfl,q3,q4⟩
 ·subst hj
  rw[iI hlt] at ho2
  cases ho2
  have hcl:jE.toList.length=jE.size:=mT
  have hoff:∀(j:Nat) y,(ho'::hs)[j+1]?=some y→bq y≠some g:=fun j y hj hb=>by
   have:=g6 0 (j+1) ho' y g rfl hj hblk hb
   omega
  refine⟨_,hK,h0,ho',hs,xs.set i v,rfl,⟨by rw[cW];exact hrow.1,.inr ⟨g,off,cap,_,z1,z2,ZN w g jE _ _ _ z3,z4,z5,?_,?_⟩⟩,g3,fun j y z q1 q2=>?_,fun j mm y q1 q2=>?_,g6⟩
  ·rw[T3,tT,tT,mU,MO,T4];omega
  ·rw[MP,←z7,MP]
   exact Sk _ _ _ _ _ hil (by omega)
  ·rw[qU] at q1
   by_cases hij:i=j
   ·subst hij
    rw[aC rfl] at q1
    split at q1
    ·cases q1
     rw[hsi] at q2
     cases q2
     exact⟨h1,fun _=>rfl⟩
    ·cases q1
   ·rw[aA hij] at q1
    obtain⟨f1,f2⟩:=g4 j y z q1 q2
    exact⟨f1,fun _=>f2 (fun e=>hij (by cases e;rfl))⟩
  ·obtain⟨f1,ys,f2,f3⟩:=g5 j mm y q1 q2
   exact⟨f1,ys,f2.step hstp (fun b hb hy=>hoff j y (by simpa using q2) (by rw[hb,hy])),f3.step hstp (fun b hb=>.inl ⟨_,hb▸hHas⟩) hX⟩
theorem Fp{t:TypeId}{d v:D}{vd vv:Value}{k:St→Option R}(h:Rel w0 F Xc ρ0 ρ st a w)(hd:ay w (XB st.ae ρ Xc) ρ d vd)(hv:ay w (XB st.ae ρ Xc) ρ v vv)
 (hk:AW P st t d v k=some r):∃st' w',(Instr.storeAt t vd vv).run P w=.ok () w'∧Rel w0 F Xc ρ0 ρ st' a w'∧k st'=some r:=by
 unfold AW at hk
 split at hk
 case h_2=>cases hk
 rename_i n cs hn hcs
 split at hk
 case isFalse=>cases hk
 rename_i hc
 obtain⟨hlen,hok⟩:=hc
 have hl:=CQ hv hcs
 have h1:=hl.mg hok
 have hsz:vv.cells.size=n:=by have:=hl.1;rw[mT] at this;omega
 obtain⟨c,rfl,hc,hk9⟩:=vN hd hk
 clear hk
 have hk:=hk9
 clear hk9
 cases c with
 | box key j=>
  dsimp only at hk
  split at hk
  case h_2=>cases hk
  rename_i l hob
  split at hk
  case isFalse=>cases hk
  rename_i hle
  obtain⟨hle,htl⟩:=hle
  rcases hc with hc | ⟨⟨hv',e1,ba,e2,e3⟩,_⟩
  ·cases hc
  ·obtain⟨hv'',f1,g,ys,ty,f2,f3,f0,f4⟩:=h.ae key _ hob
   rw[e1] at f1
   cases f1
   rw[f2] at e2
   simp only[JG,cC] at e2
   subst e2
   subst e3
   have hadd:(⟨g,0,none⟩:Addr).add j=⟨g,j,none⟩:=by unfold Addr.add;split <;> simp_all
   have hyl:=f4.1
   rw[mT] at hyl
   have hrun:=DF (P:=P) (t:=t) hn hsz f3 (j:=j) (by omega) h1
   refine⟨_,_,?_,h.ll (l':=l.take j++cs++l.drop (j+n)) (zs:=(ys.toList.take j++vv.cells.toList++ys.toList.drop (j+n)).toArray) hob e1 f2 f3 ?_ ?_,hk⟩
   ·simp only[Instr.storeAt,Instr.sureAddr,bO,iL,dM,hadd]
    exact hrun
   ·rcases htl with hj | hj
    ·intro u hu
     cases j with
     | zero=>omega
     | succ j=>
      cases l with
      | nil=>simp at hle
      | cons c0 l0=>
       have h0:=CP.1 hu
       simp only[ZJ,List.cons_append,AT] at h0
       obtain⟨q1,y,q2,q3⟩:=f0 u (CP.2 (by simpa using h0))
       refine⟨q1,y,?_,q3⟩
       cases hz:ys.toList with
       | nil=>rw[←MK,hz] at q2;cases q2
       | cons z zs=>
        rw[←MK,hz] at q2
        simp only[ZJ,List.cons_append,KZ,AT] at q2 ⊢
        exact q2
    ·exact .none hj
   ·exact((f4.take j).append hl).append (f4.drop (j+n))
 | ib key m i j=>
  dsimp only at hk
  split at hk
  case h_2=>cases hk
  rename_i q hfq
  obtain⟨objs',cs'⟩:=q
  obtain⟨h,hl⟩:=US h hl hfq
  have hlen:cs'.length=n:=by have:=hl.1;rw[mT] at this;omega
  dsimp only at hk
  split at hk
  case h_2=>cases hk
  rename_i e m' es hob
  have hk9:=GZ hl hk
  clear hk
  obtain⟨ts,hk,t1,t2,t3⟩:=hk9
  split at hk
  case isFalse=>cases hk
  rename_i hle
  obtain⟨rfl,hle⟩:=hle
  obtain⟨x,hx,hk⟩:=bK hk
  have hx:=CR hx
  rcases hc with hc | ⟨⟨hv',e1,ba,e2,e3⟩,_⟩
  ·cases hc
  ·obtain⟨hv'',f1,f2⟩:=h.ae key _ hob
   rw[e1] at f1
   cases f1
   have f2':=f2
   obtain⟨h0,hu,⟨xs,hown,hr⟩,hf⟩:=f2'
   have hxa:∀t∈x.cells,∀l,t≠.agg l:=fun t ht=>hr.mi t (by
    unfold flat
    exact JC.2 ⟨x,mS hx,ht⟩)
   obtain⟨u1,u2⟩:=Jc hu hx (ts:=ts) (j:=j) (by omega) t3 hxa
   rcases hown.2 with⟨z1 | ⟨az,z1⟩,z2⟩ | ⟨g,off,cap,jE,z1,z2,z3,z4,z5,z6,z7⟩
   ·rw[z1] at e2;simp[JG] at e2
   ·have:es=[]:=vJ z2
    subst this
    simp at hx
   ·rw[z1] at e2
    simp only[JG,cC] at e2
    subst e2
    subst e3
    have hil:i<es.length:=(dA.1 hx).1
    have hmul:(i+1)*m≤es.length*m:=E9 _ hil
    rw[tU] at hmul
    have hcapm:es.length*m≤cap*m:=E9 _ z4
    have hadd:(⟨g,off,none⟩:Addr).add (i*m+j)=⟨g,off+(i*m+j),none⟩:=by unfold Addr.add;split <;> simp_all
    have hrun:=DF (P:=P) (t:=t) hn hsz z3 (j:=off+(i*m+j)) (by omega) h1
    have hflt:(flat es).length=es.length*m:=hu.length
    have hcl:off+cap*m≤jE.toList.length:=by rw[mT];exact z6
    have hdl:(jE.toList.drop off).length=jE.toList.length-off:=MO
    have hxl:xs.length=es.length*m:=hown.1
    have hvl:vv.cells.toList.length=n:=by rw[mT];exact hsz
    refine⟨_,w.setRow g (jE.toList.take (off+(i*m+j))++vv.cells.toList++jE.toList.drop (off+(i*m+j)+n)).toArray,?_,?_,hk⟩
    ·simp only[Instr.storeAt,Instr.sureAddr,bO,iL,dM,hadd]
     exact hrun
    ·have hlt:key<objs'.length:=(dA.1 hob).1
     have hblk:bq hv'=some g:=by rw[z1];simp[bq];omega
     have hHas:Has objs' ρ key g:=⟨_,hv',hob,rfl,e1,.inl hblk⟩
     refine h.change _ ρ (·=key) (xD w g _) (fun jj hj=>⟨by rw[fC (fun e=>hj e.symm)],rfl⟩) (.refl _) (fun b hb=>⟨key,rfl,hb▸hHas⟩)
      (fun jj b hj hb=>?_) (fun jj j' b hj hj' _ _=>hj.trans hj'.symm) (fun hX jj o' hj ho'=>?_) (fun _ _=>rfl)
     ·subst hj
      obtain⟨o',v,_,_,q3,q4⟩:=hb
      rw[e1] at q3
      cases q3
      have q5:=q4.one (by rw[z1];rfl)
      rw[hblk] at q5
      cases q5
      exact .inl ⟨_,rfl,hHas⟩
     ·subst hj
      rw[iI hlt] at ho'
      cases ho'
      refine⟨hv',e1,h0,u1,⟨xs.take (i*m+j)++vv.cells.toList++xs.drop (i*m+j+n),⟨?_,.inr ⟨g,off,cap,_,by rw[cW];exact z1,z2,ZN w g jE _ e (0,0) z3,by rw[cW];exact z4,z5,?_,?_⟩⟩,?_⟩,fun hc=>by cases hc⟩
      ·rw[HW _ _ _ _ (by omega) hvl,cW];exact hown.1
      ·rw[T3,HW _ _ _ _ (by omega) hvl,mT];exact z6
      ·have:=WW (jE.toList.drop off) vv.cells.toList (i*m+j) (es.length*m) (by omega) (by omega)
       rw[hvl] at this
       rw[cW,WX _ _ _ _ _ (by omega),this,z7]
      ·rw[u2]
       have hr':dk (w.setRow g (jE.toList.take (off+(i*m+j))++vv.cells.toList++jE.toList.drop (off+(i*m+j)+n)).toArray) (XB (objs'.set jj (O.row false e m (es.set i (T.aw m x j ts)))) ρ Xc) (flat es) xs:=
        hr.step (xD w g _) (fun b hb=>.inl ⟨_,hb▸hHas⟩) hX
       have ht':=t2.step (xD w g (jE.toList.take (off+(i*m+j))++vv.cells.toList++jE.toList.drop (off+(i*m+j)+n)).toArray) (fun b hb=>.inl ⟨_,hb▸hHas⟩) hX
       have htl:ts.length=n:=by omega
       rw[htl]
       have:=hr'.splice ht' (p:=i*m+j) (by omega)
       rw[htl] at this
       exact this
 | kn key i=>
  dsimp only at hk
  split at hk
  case h_2=>cases hk
  rename_i K k3 i3 hK
  split at hk
  case h_2=>cases hk
  rename_i hi e e2 m l hob
  split at hk
  case isFalse=>cases hk
  rename_i hkk
  obtain⟨_,q1,hk1⟩:=bK hk
  obtain⟨_,q2,hk2⟩:=bK hk1
  obtain⟨x,q3,hk3⟩:=bK hk2
  have q1:=WU q1
  have q2:=WU q2
  have q3:=CR q3
  subst q2
  subst q1
  subst hkk
  rcases hc with hc | ⟨⟨vs,hv',e1,e2',ba,e3,e4⟩,_⟩
  ·cases hc
  ·obtain⟨hole,_,_,_,_,vs',f1,f2,f3,f4⟩:=DD h hK e1
   rw[hob] at f1
   cases f1
   have hvv:∀y,vv.cells.toList[0]?=some y→ch w (XB st.ae ρ Xc) ρ (.fh k3 hi) y:=fun y=>hl.2 0 (.fh k3 hi) y rfl
   have hcl:vv.cells.toList.length=1:=by have:=hl.1;simpa using this
   have hn1:n=1:=by rw[←hlen];rfl
   subst hn1
   have hvc:∃u,vv.cells.toList=[u]∧u.oneCell'=true∧vs'[hi+1]?=some u:=by
    have hvx:∃u,vv.cells.toList=[u]:=by
     match hh:vv.cells.toList,hcl with
     | [u],_=>exact⟨u,rfl⟩
    obtain⟨u,hu⟩:=hvx
    have h2:=hvv u (by rw[hu];rfl)
    rcases h2 with h2 | ⟨⟨vs2,p1,p2⟩,p3⟩
    ·cases h2
    ·rw[f2] at p1
     cases p1
     exact⟨u,hu,p3,p2⟩
   obtain⟨u,hu1,hu2,hu3⟩:=hvc
   obtain⟨w',r1,r2⟩:=Rel.jr (P:=P) (t:=t) h hob f2 (f3.trans e2') hu3 hu2 (dA.1 q3).1 e3 hn hu1
   exact⟨_,w',by rw[e4];simp only[Instr.storeAt,Instr.sureAddr,bO,iL,dM];exact r1,r2,hk3⟩
 | rk _=>cases hk
 | fh _ _=>cases hk
 | t x=>cases hk
 | row k'=>cases hk
 | pe m x j=>cases hk
 | fn f' cs'=>cases hk
 | self _=>cases hk
 | cut _ _ _ _ _=>cases hk
 | fg=>cases hk
 | top=>cases hk
end
section
variable {P:Program} {w:World}
theorem HX(b:Nat)(e:TypeId)(fr:Nat×Nat):∀(vs:List Value) (o:Nat) (w:World) (jE:Array Value),w.heap[b]?=some (.cells jE e fr)→o+vs.length≤jE.size →
 (w.setCells b o vs).heap[b]?=some (.cells (jE.toList.take o++vs++jE.toList.drop (o+vs.length)).toArray e fr)
 | [],o,w,jE,h,hl=>by simp[World.setCells,h]
 | v::vs,o,w,jE,h,hl=>by
  simp only[oB] at hl
  have h1:(w.setCell ⟨b,o,none⟩ v).heap[b]?=some (.cells (jE.setIfInBounds o v) e fr):=by simp[World.setCell,TU,h]
  have:=HX b e fr vs (o+1) (w.setCell ⟨b,o,none⟩ v) (jE.setIfInBounds o v) h1 (by simp;omega)
  simp only[World.setCells]
  rw[this]
  congr 3
  have hs:(jE.setIfInBounds o v).toList=jE.toList.take o++v::jE.toList.drop (o+1):=by
   rw[Array.toList_setIfInBounds,ZO,aC (by rw[mT];omega)]
  have hlo:(jE.toList.take o).length=o:=by rw[mU,mT];omega
  rw[hs]
  have e1:(jE.toList.take o++v::jE.toList.drop (o+1)).take (o+1)=jE.toList.take o++[v]:=by
   rw[ZK,hlo,IF (by omega),TV];rfl
  have e2:(jE.toList.take o++v::jE.toList.drop (o+1)).drop (o+1+vs.length)=jE.toList.drop (o+(vs.length+1)):=by
   rw[List.drop_append,hlo,List.drop_of_length_le (by omega),ZG,show o+1+vs.length-o=vs.length+1 by omega,List.drop_succ_cons,OM]
   congr 1;omega
  rw[e1,e2]
  simp
theorem FF(b:Nat):∀(vs:List Value) (o:Nat) (w:World),w.grownBy (w.setCells b o vs) (some b)
 | [],o,w=>ZQ w _
 | v::vs,o,w=>by
  have h:=FF b vs (o+1) (w.setCell ⟨b,o,none⟩ v)
  exact⟨h.os,h.tape,h.output,by have:=h.size;have e:(w.setCell ⟨b,o,none⟩ v).heap.size=w.heap.size:=(by simp[World.setCell]);rw[e] at this;exact this,fun k hk hne=>by
   simp only[World.setCells]
   rw[h.block k (by simpa[World.setCell] using hk) hne]
   exact Below.heap_setCell w ⟨b,o,none⟩ v k (fun e=>hne (by rw[e]))⟩
theorem O4{t tx ty e:TypeId}{i:TypeInfo}(ht:P.underlying t=some (.slice e))(hi:P.info? e=some i)(base:Option Addr){x:Value}(hs:Src P i.size tx x 0 [] w):
 (Builtin.append_ #[t,tx] ty #[.slice base 0 0,x]).run P w=.ok (.slice base 0 0) w:=by
 rcases hs.kind with⟨e',hk⟩ | hk <;> cases base <;> simp[Builtin.append_,qT ht,qT hk,sizeOf,typeInfo,hi,hs.len,hs.cells,storeCells]
theorem AY{t tx ty e:TypeId}{i:TypeInfo}{z:Value}(ht:P.underlying t=some (.slice e))(hi:P.info? e=some i)(hz:i.zero=some z)(hzs:z.cells.size=i.size)(hsz:0<i.size)
 {v:Value} {m:Nat} {xs:List Value} (hown:rowAt w e i.size v m xs) {x:Value} {q:Nat} {news:List Value} (hs:Src P i.size tx x q news w) (h63:m+q≤maxLen) (hb:(m+q)*i.bytes≤140737488355328):
 ∃v' w',(Builtin.append_ #[t,tx] ty #[v,x]).run P w=.ok v' w'∧rowAt w' e i.size v' (m+q) (xs++news)∧w.grownBy w' (bq v)∧(bq v'=bq v∨bq v'=some w.heap.size):=by
 have hnl:=hs.newsLen
 have hxl:=hown.1
 have grow:∀(base:Option Addr) (cap:Nat),v=.slice base m cap→cap<m+q→(Builtin.firstCells i.size m (.slice base m cap)).run P w.drew=.ok xs.toArray w.drew →
  ∃v' w',(Builtin.append_ #[t,tx] ty #[v,x]).run P w=.ok v' w'∧rowAt w' e i.size v' (m+q) (xs++news)∧w.grownBy w' (bq v)∧(bq v'=bq v∨bq v'=some w.heap.size):=fun base cap hv hg hold=>by
  subst hv
  have hge:=grownCap_ge w (m+q) cap e
  have hcm:grownCap w (m+q) cap e≤maxLen:=grownCap_le_maxLen w (m+q) cap e h63
  have hr:=run_append_grow_src (P:=P) w t tx ty e i z ht hi hz base m cap xs hold x q news hs hg (by simp only[maxLen] at h63;omega) (growslice_fits hg hb)
  have hlen:(xs++news).length=(m+q)*i.size:=by rw[tT,hxl,hnl,tU]
  refine⟨_,_,hr,⟨hlen,.inr ⟨w.heap.size,0,_,_,rfl,by omega,OL w.drew _,hge,hcm,?_,?_⟩⟩,⟨rfl,rfl,rfl,by simp,fun k hk _=>heap_alloc_old w.drew _ hk⟩,.inr ?_⟩
  ·simp only[Array.size_append,T3,size_zeroCells,hzs,hlen,←tU]
   rw[OO]
   refine Nat.le_of_eq ?_
   congr 1
   omega
  ·simp only[Array.toList_append,T0]
   rw[←hlen]
   exact T5
  ·simp only[bq]
   rw[aA (by omega)]
 rcases hown.2 with⟨hnil,rfl⟩ | ⟨g,off,cap,jE,rfl,hc0,hg,hmc,hcm,hsz',htake⟩
 ·have hxs:xs=[]:=vJ (by rw[hxl,Nat.zero_mul])
  subst hxs
  obtain⟨base,rfl⟩:∃base,v=.slice base 0 0:=by
   rcases hnil with h | ⟨a,h⟩
   ·exact⟨none,h⟩
   ·exact⟨some a,h⟩
  by_cases hq:q=0
  ·subst hq
   have hn:news=[]:=vJ (by simpa using hnl)
   subst hn
   exact⟨_,w,O4 (ty:=ty) ht hi base hs,by simpa using hown,ZQ w _,.inl rfl⟩
  ·refine grow base 0 rfl (by omega) ?_
   cases base with
   | none=>exact run_firstCells_none w.drew i.size 0 0 0
   | some a=>exact run_firstCells_some w.drew i.size 0 a 0 0 [] (by simp) (fun j u h=>by simp at h)
 ·by_cases hroom:m+q≤cap
  ·have hmul:(m+q)*i.size≤cap*i.size:=E9 _ hroom
   rw[tU] at hmul
   have hcl:jE.toList.length=jE.size:=mT
   have hr:=run_append_room_src (P:=P) w t tx ty e i ht hi g off m cap x q news hs hroom (fun j hj=>by
    simp only[World.cell?,hg]
    have:off+m*i.size+j<jE.size:=by omega
    simp[vL this]) (fun j hj=>by simp[World.frozen?,hg])
   refine⟨_,_,hr,⟨by rw[tT,hxl,hnl,tU],.inr ⟨g,off,cap,_,rfl,hc0,HX g e (0,0) news (off+m*i.size) w jE hg (by omega),hroom,hcm,?_,?_⟩⟩,?_,.inl rfl⟩
   ·simp only[T3,tT,mU,MO,hcl]
    omega
   ·have hx:(jE.toList.drop off).take (m*i.size)=xs:=htake
    simp only[]
    rw[JD,ZP (by rw[mU,hcl];omega),ON,show off+m*i.size-off=m*i.size by omega,hx,←JD]
    have:(xs++news).length=(m+q)*i.size:=by rw[tT,hxl,hnl,tU]
    rw[←this,T5]
   ·have:=FF g news (off+m*i.size) w
    have hb':bq (.slice (some ⟨g,off,none⟩) m cap)=some g:=by simp only[bq];rw[aA (by omega)]
    rw[hb']
    exact this
  ·exact grow _ cap rfl (by omega) (run_firstCells_some w.drew i.size m ⟨g,off,none⟩ m cap xs hxl (fun j u hj=>by have:=hown.cells rfl j u hj;simpa using this))
end
@[irreducible] def qH{α:Type}(l m:List α)(b:Nat):Option (List α):=if (l.length+m.length)≤maxLen∧(l.length+m.length)*b≤140737488355328 then some (l++m) else none
theorem LI{α:Type}{l m q:List α}{b:Nat}(h:qH l m b=some q):q=l++m∧l.length+m.length≤maxLen∧(l.length+m.length)*b≤140737488355328:=by
 unfold qH at h
 split at h
 ·rename_i hc;cases h;exact⟨rfl,hc⟩
 ·cases h
@[irreducible] def B9(s:ByteArray):List T:=s.data.toList.map fun b=>.v (.int .u8 b.toNat)
section
variable {R:Type} (P:Program)
def yV(st:St)(n:Nat)(c:C)(k:List T→Option R):Option R:=match c with
 | .t x=>ob (x.kf n) k
 | .row key=>match st.ae[key]? with
  | some (.row _ _ n' es)=>if n'=n then k es else none
  | _=>none
 | .cut key m lo len _=>match st.ae[key]? with
  | some (.row _ _ n' es)=>if n'=n∧m=n then k (oC es lo len) else none
  | _=>none
 | _=>none
def ND(st:St)(e:TypeId)(n:Nat)(c:C)(k:St→List T→Option R):Option R:=match c with
 | .t (.v (.slice none 0 0))=>k st []
 | .row key=>match st.ae[key]? with
  | some (.row false e' n' es)=>if e'=e∧n'=n then k { st with ae:=st.ae.set key .dead } es else none
  | _=>none
 | .cut key m lo len _=>match st.ae[key]? with
  | some (.row false e' n' es)=>if e'=e∧n'=n∧m=n then k { st with ae:=st.ae.set key .dead } (oC es lo len) else none
  | _=>none
 | _=>none
def BU(st:St)(dst:Option Nat)(t u:TypeId)(s x:D)(k:St→D→Option R):Option R:=
 match P.underlying t with
 | some (.slice e)=>match P.info? e with
  | some i=>match i.zero with
   | some z=>if z.cells.size=i.size∧(0<i.size∧i.size<1000000000) then
    AI s fun cs=>
     if u=t then AI x fun cx=>yV st i.size cx fun m=>ND st e i.size cs fun st l=>ob (qH l m i.bytes) fun q=>
      qV st dst (.row false e i.size q) fun st key=>k st (.s (.c (.row key)))
     else match P.underlying u,z,i.size,i.bytes with
      | some .string,.int .u8 0,1,1=>WL x fun b=>ND st e 1 cs fun st l=>ob (qH l (B9 b) 1) fun q=>
       qV st dst (.row false e 1 q) fun st key=>k st (.s (.c (.row key)))
      | _,_,_,_=>none
    else none
   | none=>none
  | none=>none
 | _=>none
def MV(st:St)(dst:Option Nat)(t u:TypeId)(key i:Nat)(x:D)(k:St→D→Option R):Option R:=
 match P.underlying t with
 | some (.slice e)=>match P.info? e with
  | some inf=>match inf.zero with
   | some z=>if z.cells.size=inf.size∧(0<inf.size∧inf.size<1000000000)∧u=t then
    AI x fun cx=>yV st inf.size cx fun m=>match st.ae[key]? with
     | some (.rr none e1 e2 n l)=>if e2=e∧n=inf.size then ob (aS l i) fun old=>ob (qH old m inf.bytes) fun q=>
      qV st dst (.rr (some i) e1 e2 n (l.set i q)) fun st K=>k { st with ae:=st.ae.set key (.fwd K) } (.s (.c (.fh K i)))
      else none
     | _=>none
    else none
   | none=>none
  | none=>none
 | _=>none
def zW(st:St)(dst:Option Nat)(t u:TypeId)(s x:D)(k:St→D→Option R):Option R:=match s with
 | .s (.c (.fh key i))=>MV P st dst t u key i x k
 | _=>BU P st dst t u s x k
end
section
variable {R:Type} {P:Program} {w0 w w':World} {F Xc:Nat→Prop} {ρ0:cn} {ρ:nT} {st:St} {a:Act} {r:R}
theorem SH{n:Nat}{c:C}{y:Value}{k:List T→Option R}(h:Rel w0 F Xc ρ0 ρ st a w)(hc:ch w (XB st.ae ρ Xc) ρ c y)(hk:yV st n c k=some r):
 ∃l,k l=some r∧dr n l∧∃ys,dk w (XB st.ae ρ Xc) (flat l) ys ∧
  ((∃q,y=.slice none 0 q∧l=[])∨∃ad q,y=.slice (some ad) l.length q∧l.length≤q∧∀(j:Nat) u,ys[j]?=some u→w.cell? (ad.add j)=some u):=by
 unfold yV at hk
 split at hk
 ·rename_i x
  obtain⟨l,hl,hk2⟩:=bK hk
  clear hk
  rcases hc with hc | ⟨hc,_⟩
  ·cases hc
  ·obtain⟨hnm,hl⟩:=T.fj hl
   unfold T.il at hl
   split at hl
   ·rw[aC hnm] at hl
    cases hl
    have:=Rd.cq hc
    subst this
    exact⟨[],hk2,.nil n,[],⟨rfl,fun i t y h1 _=>by simp[flat] at h1⟩,.inl ⟨0,rfl,rfl⟩⟩
   ·split at hl
    ·rename_i hkk
     cases hl
     subst hkk
     cases hc with
     | mp _ _ _ _ _ hbig=>omega
     | nil=>exact⟨[],hk2,.nil _,[],⟨rfl,fun i t y h1 _=>by simp[flat] at h1⟩,.inl ⟨0,rfl,rfl⟩⟩
     | sl _ _ ad q ys _ hq hm hu hy hcell hr=>
      exact⟨_,hk2,hu,ys,⟨hy,fun i t y h1 h2=>⟨hr i t y h1 h2,(hcell i y h2).2.2⟩⟩,.inr ⟨ad,q,rfl,hq,fun j u hj=>(hcell j u hj).1⟩⟩
    ·cases hl
   ·cases hl
 ·rename_i key
  split at hk
  ·rename_i fz e n' es hob
   split at hk
   ·rename_i hn
    subst hn
    rcases hc with hc | ⟨hc,_⟩
    ·cases hc
    ·obtain⟨hv,e1,e2⟩:=h.ae key _ hob
     simp only[ia] at hc
     rw[hc] at e1
     cases e1
     obtain⟨h0,hu,_,_⟩:=id e2
     rcases pI e2 with⟨rfl,rfl⟩ | ⟨a0,cap,rfl,h1,h2,xs,hr,hcell⟩
     ·exact⟨[],hk,.nil _,[],⟨rfl,fun i t y h1 _=>by simp[flat] at h1⟩,.inl ⟨0,rfl,rfl⟩⟩
     ·exact⟨es,hk,hu,xs,hr,.inr ⟨_,cap,rfl,h1,hcell⟩⟩
   ·cases hk
  ·cases hk
 ·rename_i key m lo len tg
  split at hk
  ·rename_i fz e n' es hob
   split at hk
   ·rename_i hn
    obtain⟨rfl,rfl⟩:=hn
    rcases hc with hc | ⟨⟨hv,q1,q2⟩,_⟩
    ·cases hc
    ·obtain⟨hv',e1,e2⟩:=h.ae key _ hob
     rw[q1] at e1
     cases e1
     obtain⟨_,hu,_,hh⟩:=GX e2 q2
     rcases hh with⟨rfl,h2⟩ | ⟨ad,q,rfl,h1,h2,xs,hr,hcell⟩
     ·exact⟨_,hk,hu,[],by rw[h2];exact⟨rfl,fun i t y h1 _=>by simp[flat] at h1⟩,.inl ⟨0,rfl,h2⟩⟩
     ·exact⟨_,hk,hu,xs,hr,.inr ⟨ad,q,rfl,h1,fun j u hj=>(hcell j u hj).1⟩⟩
   ·cases hk
  ·cases hk
 ·cases hk
theorem ei.row{e:TypeId}{n lo len L:Nat}{tg:Bool}{v y:Value}{xs:List Value}(hc:ei v n lo len tg y)(hr:rowAt w e n v L xs):rowAt w e n y len ((xs.drop (lo*n)).take (len*n)):=by
 obtain⟨ao,L',c,cc,ao',rfl,rfl,h1,h2,h3,h4,_⟩:=hc
 have hxl:=hr.1
 have hL:L=L':=by
  rcases hr.2 with⟨hn | ⟨a,hn⟩,h0⟩ | ⟨g,off,cap,jE,e1,_⟩
  ·cases hn;exact h0
  ·cases hn;exact h0
  ·cases e1;rfl
 subst hL
 have hmul:(lo+len)*n≤L*n:=E9 _ h1
 rw[tU] at hmul
 refine⟨by rw[mU,MO,hxl];omega,?_⟩
 by_cases hcc:cc=0
 ·subst hcc
  have hz:len=0:=by omega
  subst hz
  refine .inl ⟨?_,rfl⟩
  cases ao' with
  | none=>exact .inl rfl
  | some a=>exact .inr ⟨a,rfl⟩
 ·rcases hr.2 with⟨hn,h0⟩ | ⟨g,off,cap,jE,e1,g1,g2,g3,g4,g5,g6⟩
  ·exfalso
   rcases hn with hn | ⟨a,hn⟩ <;> (cases hn;omega)
  ·cases e1
   have h5:=h4 (by omega)
   have hadd:(⟨g,off,none⟩:Addr).add (lo*n)=⟨g,off+lo*n,none⟩:=by unfold Addr.add;split <;> simp_all
   simp only[fH,hadd] at h5
   subst h5
   have hm2:(lo+cc)*n≤c*n:=E9 _ h3
   rw[tU] at hm2
   refine .inr ⟨g,off+lo*n,cc,jE,rfl,by omega,g2,h2,by omega,by omega,?_⟩
   rw[←g6,ON,List.take_take,OM,OP (by omega)]
theorem ei.bq{n lo len:Nat}{tg:Bool}{v y:Value}(hc:ei v n lo len tg y){b:Nat}(hb:Eng.bq y=some b):Eng.bq v=some b:=by
 obtain⟨ao,L',c,cc,ao',rfl,rfl,h1,h2,h3,h4,_⟩:=hc
 cases ao' with
 | none=>cases hb
 | some a'=>
  simp only[Eng.bq] at hb
  split at hb
  ·cases hb
  ·have h5:=h4 (by omega)
   cases ao with
   | none=>cases h5
   | some a=>
    simp only[fH,cC] at h5
    subst h5
    simp only[uY] at hb
    simp only[Eng.bq]
    rw[aA (by omega)]
    exact hb
theorem O5{e:TypeId}{n:Nat}{y v:Value}{key:Nat}{es:List T}(h:Rel w0 F Xc ρ0 ρ st a w)(hn:0<n∧n<1000000000)(hob:st.ae[key]?=some (.row false e n es))(hc:ρ key=some v)(hby:∀b,bq y=some b→bq v=some b):
 ∀(w':World) (d:Nat) (l':List T) (v':Value) (xs':List Value),(st.ae.set key .dead)[st.np+d]?=some .fresh→rowAt w' e n v' l'.length xs'→dr n l'→w.grownBy w' (bq y)→(bq v'=bq y∨bq v'=some w.heap.size) →
  dk w (XB st.ae ρ Xc) (flat l') xs' →
  ∃ρ',Rel w0 F Xc ρ0 ρ' { st with ae:=(st.ae.set key .dead).set (st.np+d) (.row false e n l') } a w'∧ρ' (st.np+d)=some v'∧fu ρ ρ':=by
 intro w' d l' v' xs' hf hown hu hg hv' hr
 have hklt:key<st.ae.length:=(dA.1 hob).1
 have hdk:st.np+d≠key:=fun e=>by
  rw[e,iI hklt] at hf;cases hf
 have hf0:st.ae[st.np+d]?=some .fresh:=by rw[fC (fun e=>hdk e.symm)] at hf;exact hf
 have hnone:ρ (st.np+d)=none:=h.ae _ _ hf0
 have hdlt:st.np+d<(st.ae.set key O.dead).length:=(dA.1 hf).1
 have hs:cf (fun b=>bq y=some b) w w':=cf.grown hg (fun g hg=>hg)
 have hHas:∀b,bq y=some b→Has st.ae ρ key b:=fun b hb=>⟨_,v,hob,rfl,hc,.inl (hby b hb)⟩
 have hρ:fu ρ (aw ρ (st.np+d) v'):=fun j u hj=>by
  unfold aw
  split
  ·rename_i e;subst e;rw[hnone] at hj;cases hj
  ·exact hj
 have hnew:∀j b,(j=key∨j=st.np+d)→Has ((st.ae.set key .dead).set (st.np+d) (.row false e n l')) (aw ρ (st.np+d) v') j b→j=st.np+d∧bq v'=some b:=by
  intro j b hj hh
  obtain⟨o',u,q1,q2,q3,q4⟩:=hh
  rcases hj with rfl | rfl
  ·rw[fC hdk,iI hklt] at q1
   cases q1;cases q2
  ·simp only[aw,eP,cC] at q3
   subst q3
   exact⟨rfl,q4.one hown.one⟩
 refine⟨aw ρ (st.np+d) v',h.change _ _ (fun j=>j=key∨j=st.np+d) hs (fun j hj=>⟨?_,by unfold aw;rw[aA (fun e=>hj (.inr e))]⟩) hρ (fun b hb=>⟨key,.inl rfl,hHas b hb⟩)
  (fun j b hj hh=>?_) (fun j j' b hj hj' hh hh'=>(hnew j b hj hh).1.trans (hnew j' b hj' hh').1.symm) (fun hX j o' hj ho'=>?_) (fun j hj=>by unfold aw;rw[aA (by omega)]),by simp[aw],hρ⟩
 ·rw[fC (fun e=>hj (.inr e.symm)),fC (fun e=>hj (.inl e.symm))]
 ·obtain⟨_,hb⟩:=hnew j b hj hh
  rcases hv' with hv' | hv'
  ·exact .inl ⟨key,.inl rfl,hHas b (hv'▸hb)⟩
  ·rw[hv'] at hb;cases hb;exact .inr (gU _)
 ·rcases hj with rfl | rfl
  ·rw[fC hdk,iI hklt] at ho'
   cases ho';trivial
  ·rw[iI hdlt] at ho'
   cases ho'
   exact⟨v',by simp[aw],hn,hu,⟨xs',hown,hr.step hs (fun b hb=>.inl ⟨key,hHas b hb⟩) hX⟩,fun hc=>by cases hc⟩
theorem Db{e:TypeId}{n:Nat}{c:C}{y:Value}{k:St→List T→Option R}(h:Rel w0 F Xc ρ0 ρ st a w)(hc:ch w (XB st.ae ρ Xc) ρ c y)(hn:0<n∧n<1000000000)(hk:ND st e n c k=some r):
 ∃l st1,k st1 l=some r∧dr n l∧st1.np=st.np∧st1.env=st.env∧(∃xs,rowAt w e n y l.length xs∧dk w (XB st.ae ρ Xc) (flat l) xs) ∧
  ∀(w':World) (d:Nat) (l':List T) (v':Value) (xs':List Value),st1.ae[st.np+d]?=some .fresh→rowAt w' e n v' l'.length xs'→dr n l'→w.grownBy w' (bq y)→(bq v'=bq y∨bq v'=some w.heap.size) →
   dk w (XB st.ae ρ Xc) (flat l') xs' →
   ∃ρ',Rel w0 F Xc ρ0 ρ' { st1 with ae:=st1.ae.set (st.np+d) (.row false e n l') } a w'∧ρ' (st.np+d)=some v':=by
 unfold ND at hk
 split at hk
 ·rcases hc with hc | ⟨hc,_⟩
  ·cases hc
  ·have:=Rd.cq hc
   subst this
   refine⟨[],st,hk,.nil n,rfl,rfl,⟨[],rowAt.nil w e n,⟨rfl,fun i t y h1 _=>by simp[flat] at h1⟩⟩,?_⟩
   intro w' d l' v' xs' hf hown hu hg hv hr
   have hs:cf (fun _=>False) w w':=cf.grown hg (fun g hg=>by simp[bq] at hg)
   have hnone:ρ (st.np+d)=none:=h.ae _ _ hf
   refine⟨_,h.new (hv:=v') hf hs (fun b hb=>?_) (fun X' hX=>?_) (HQ _ _) (by simp),by simp[aw]⟩
   ·rcases hv with hv | hv
    ·rw[hv] at hb;simp[bq] at hb
    ·rw[hv] at hb;cases hb;exact gU _
   ·exact⟨hn,hu,⟨xs',hown,hr.step hs (fun _ hb=>False.elim hb) hX⟩,fun hc=>by cases hc⟩
 ·rename_i key
  split at hk
  ·rename_i e' n' es hob
   split at hk
   ·rename_i hcond
    obtain⟨rfl,rfl⟩:=hcond
    rcases hc with hc | ⟨hc,_⟩
    ·cases hc
    ·obtain⟨hv,e1,e2⟩:=h.ae key _ hob
     simp only[ia] at hc
     rw[hc] at e1
     cases e1
     obtain⟨h0,hu0,⟨xs,hown0,hr0⟩,_⟩:=e2
     refine⟨es,_,hk,hu0,rfl,rfl,⟨xs,hown0,hr0⟩,?_⟩
     intro w' d l' v' xs' h1 h2 h3 h4 h5 h6
     obtain⟨ρ',r1,r2,_⟩:=O5 h hn hob hc (fun b hb=>hb) w' d l' v' xs' h1 h2 h3 h4 h5 h6
     exact⟨ρ',r1,r2⟩
   ·cases hk
  ·cases hk
 ·rename_i key m lo len tg
  split at hk
  ·rename_i e' n' es hob
   split at hk
   ·rename_i hcond
    obtain⟨rfl,rfl,rfl⟩:=hcond
    rcases hc with hc | ⟨⟨v,q1,q2⟩,_⟩
    ·cases hc
    ·obtain⟨hv,e1,e2⟩:=h.ae key _ hob
     rw[q1] at e1
     cases e1
     obtain⟨hlen,huc,_,_⟩:=GX e2 q2
     obtain⟨h0,hu0,⟨xs,hown0,hr0⟩,_⟩:=e2
     refine⟨_,_,hk,huc,rfl,rfl,⟨_,by rw[hlen];exact q2.row hown0,?_⟩,?_⟩
     ·have hfl:flat (oC es lo len)=((flat es).drop (lo*m)).take (len*m):=by unfold oC;rw[(hu0.drop lo).dd,hu0.cr]
      rw[hfl]
      have hxl:=hr0.1
      refine⟨by simp[hxl],fun i t z h1 h2=>?_⟩
      rw[pW] at h1 h2
      split at h1
      ·rename_i hlt
       rw[aC hlt] at h2
       rw[tV] at h1 h2
       exact hr0.2 _ t z h1 h2
      ·cases h1
     ·intro w' d l' v' xs' h1 h2 h3 h4 h5 h6
      obtain⟨ρ',r1,r2,_⟩:=O5 h hn hob q1 (fun b hb=>q2.bq hb) w' d l' v' xs' h1 h2 h3 h4 h5 h6
      exact⟨ρ',r1,r2⟩
   ·cases hk
  ·cases hk
 ·cases hk
theorem dk.append{X:Nat→Prop}{l m:List T}{ys zs:List Value}(h:dk w X l ys)(h':dk w X m zs):dk w X (l++m) (ys++zs):=by
 refine⟨by simp[h.1,h'.1],fun i c y h1 h2=>?_⟩
 rw[sC] at h1 h2
 have hl:=h.1
 by_cases hi:i<l.length
 ·rw[aC hi] at h1
  rw[aC (by omega)] at h2
  exact h.2 i c y h1 h2
 ·rw[aA hi] at h1
  rw[aA (by omega)] at h2
  rw[hl] at h2
  exact h'.2 _ c y h1 h2
theorem Ah(s:ByteArray):dr 1 (B9 s):=by
 unfold B9
 intro t ht
 obtain⟨b,_,rfl⟩:=lE.1 ht
 rfl
theorem IN(s:ByteArray):(B9 s).length=s.size:=by unfold B9;rw[cS,mT];rfl
theorem WY{l:List T}(h:∀t∈l,t.cells=[t]):flat l=l:=by
 induction l with
 | nil=>rfl
 | cons t l ih=>rw[rH,h t (by simp),ih (fun t ht=>h t (by simp[ht]))];rfl
theorem Fq{X:Nat→Prop}(s:ByteArray):dk w X (flat (B9 s)) (Lib.strCells s):=by
 rw[WY (fun t ht=>by unfold B9 at ht;obtain⟨b,_,rfl⟩:=lE.1 ht;rfl)]
 refine⟨by rw[Lib.strCells_length,IN],fun i t y h1 h2=>?_⟩
 unfold B9 at h1
 unfold Lib.strCells at h2
 rw[eW] at h1 h2
 cases hb:s.data.toList[i]? with
 | none=>simp[hb] at h1
 | some b=>simp only[hb,fH,cC] at h1 h2;subst h1;subst h2;exact⟨.v _,rfl⟩
theorem Ai{dst:Option Nat}{t u ty:TypeId}{s x:D}{vs vx:Value}{k:St→D→Option R}(h:Rel w0 F Xc ρ0 ρ st a w)(hs:ay w (XB st.ae ρ Xc) ρ s vs)(hx:ay w (XB st.ae ρ Xc) ρ x vx)
 (hk:BU P st dst t u s x k=some r):
 ∃y w' ρ' st' d,(Builtin.append_ #[t,u] ty #[vs,vx]).run P w=.ok y w'∧Rel w0 F Xc ρ0 ρ' st' a w'∧ay w' (XB st'.ae ρ' Xc) ρ' d y∧k st' d=some r:=by
 unfold BU at hk
 split at hk
 case h_2=>cases hk
 rename_i e ht
 split at hk
 case h_2=>cases hk
 rename_i i hi
 split at hk
 case h_2=>cases hk
 rename_i z hz
 split at hk
 case isFalse=>cases hk
 rename_i hcond
 obtain⟨hzs,hsz⟩:=hcond
 obtain⟨cs,rfl,hcs,hk1⟩:=vN hs hk
 clear hk
 split at hk1
 ·rename_i hu
  subst hu
  obtain⟨cx,rfl,hcx,hk0⟩:=vN hx hk1
  clear hk1
  obtain⟨m,hk2,hum,ys,hys,hy⟩:=SH h hcx hk0
  obtain⟨l,st1,hk3,hul,hnp,henv,⟨xs,hown,hrl⟩,hfin⟩:=Db h hcs hsz hk2
  obtain⟨q,hq,hk4⟩:=bK hk3
  obtain⟨rfl,hq1,hq2⟩:=LI hq
  obtain⟨d,_,hf,hk5⟩:=DE hk4
  rw[hnp] at hf hk5
  have hl1:=hys.1
  rw[hum.length] at hl1
  have hone:∀u∈ys,u.oneCell'=true:=fun u hu=>by
   obtain⟨i,hi,rfl⟩:=CN hu
   have hlt:i<(flat m).length:=by rw[←hys.1];exact hi
   exact(hys.2 i _ _ (dG hlt) (dG hi)).2
  have hsrc:Src P i.size u vx m.length ys w:=by
   rcases hy with⟨q,rfl,rfl⟩ | ⟨ad,q,rfl,_,hc⟩
   ·have:ys=[]:=vJ (by simpa using hl1)
    subst this
    exact .ofNil w ht q
   ·exact .ofSlice w ht ad m.length q ys hl1 hc hone
  obtain⟨v',w',r1,r2,r3,r4⟩:=AY (P:=P) (ty:=ty) ht hi hz hzs hsz.1 hown hsrc hq1 hq2
  obtain⟨ρ',hR,hρ'⟩:=hfin w' d (l++m) v' (xs++ys) hf (by rw[tT];exact r2) (hul.append hum) r3 r4 (by rw[yI];exact hrl.append hys)
  exact⟨v',w',ρ',_,.s (.c (.row (st.np+d))),r1,hR,.one (c:=.row (st.np+d)) hρ' (r2.one),by rw[hnp];exact hk5⟩
 ·rename_i hu
  split at hk1
  ·rename_i hus hi1 hi2
   obtain⟨b,rfl,hk0⟩:=DC hx hk1
   clear hk1
   obtain⟨l,st1,hk3,hul,hnp,henv,⟨xs,hown,hrl⟩,hfin⟩:=Db h hcs (by omega) hk0
   obtain⟨q,hq,hk4⟩:=bK hk3
   obtain⟨rfl,hq1,hq2⟩:=LI hq
   obtain⟨d,_,hf,hk5⟩:=DE hk4
   rw[hnp] at hf hk5
   rw[IN] at hq1 hq2
   have hsrc:Src P i.size u (.string b) b.size (Lib.strCells b) w:=by rw[hi1];exact .ofString w hus b
   obtain⟨v',w',r1,r2,r3,r4⟩:=AY (P:=P) (ty:=ty) ht hi hz hzs hsz.1 (by rw[hi1];exact hown) hsrc hq1 (by rw[hi2];omega)
   rw[hi1] at r2
   obtain⟨ρ',hR,hρ'⟩:=hfin w' d (l++B9 b) v' (xs++Lib.strCells b) hf (by rw[tT,IN];exact r2) (hul.append (Ah b)) r3 r4 (by rw[yI];exact hrl.append (Fq b))
   exact⟨v',w',ρ',_,.s (.c (.row (st.np+d))),r1,hR,.one (c:=.row (st.np+d)) hρ' (r2.one),by rw[hnp];exact hk5⟩
  ·cases hk1
theorem Je{dst:Option Nat}{t u ty:TypeId}{key i:Nat}{x:D}{vs vx:Value}{k:St→D→Option R}(h:Rel w0 F Xc ρ0 ρ st a w)(hs:ay w (XB st.ae ρ Xc) ρ (.s (.c (.fh key i))) vs)(hx:ay w (XB st.ae ρ Xc) ρ x vx)
 (hk:MV P st dst t u key i x k=some r):
 ∃y w' ρ' st' d,(Builtin.append_ #[t,u] ty #[vs,vx]).run P w=.ok y w'∧Rel w0 F Xc ρ0 ρ' st' a w'∧ay w' (XB st'.ae ρ' Xc) ρ' d y∧k st' d=some r:=by
 unfold MV at hk
 split at hk
 case h_2=>cases hk
 rename_i e ht
 split at hk
 case h_2=>cases hk
 rename_i inf hi
 split at hk
 case h_2=>cases hk
 rename_i z hz
 split at hk
 case isFalse=>cases hk
 rename_i hcond
 obtain⟨hzs,hsz,rfl⟩:=hcond
 obtain⟨cx,rfl,hcx,hk1⟩:=vN hx hk
 clear hk
 obtain⟨m,hk2,hum,ys,hys,hy⟩:=SH h hcx hk1
 clear hk1
 split at hk2
 case h_2=>cases hk2
 rename_i e1 e2 n l hob
 split at hk2
 case isFalse=>cases hk2
 rename_i hen
 obtain⟨rfl,rfl⟩:=hen
 obtain⟨old,hold,hk3⟩:=bK hk2
 obtain⟨q,hq,hk4⟩:=bK hk3
 obtain⟨rfl,hq1,hq2⟩:=LI hq
 obtain⟨d,_,hf,hk5⟩:=DE hk4
 have hold:=CR hold
 clear hk2 hk3 hk4 hq
 have hl1:=hys.1
 rw[hum.length] at hl1
 have hone:∀u∈ys,u.oneCell'=true:=fun u hu=>by
  obtain⟨i,hi,rfl⟩:=CN hu
  have hlt:i<(flat m).length:=by rw[←hys.1];exact hi
  exact(hys.2 i _ _ (dG hlt) (dG hi)).2
 have hsrc:Src P inf.size u vx m.length ys w:=by
  rcases hy with⟨q,rfl,rfl⟩ | ⟨ad,q,rfl,_,hc⟩
  ·have:ys=[]:=vJ (by simpa using hl1)
   subst this
   exact .ofNil w ht q
  ·exact .ofSlice w ht ad m.length q ys hl1 hc hone
 rcases hs with hs | ⟨⟨us,p1,p2⟩,_⟩
 ·cases hs
 obtain⟨hv,f1,h0,ho,hs',xs,rfl,g1,g2,g3,g4,g5⟩:=h.ae key _ hob
 rw[p1] at f1
 cases f1
 have hsi:hs'[i]?=some vs:=by simpa using p2
 have hilt:i<l.length:=(dA.1 hold).1
 obtain⟨hul,xo,hown,hrl⟩:=g4 i old vs hold hsi
 obtain⟨v',w',r1,r2,r3,r4⟩:=AY (P:=P) (ty:=ty) ht hi hz hzs hsz.1 hown hsrc hq1 hq2
 have hklt:key<st.ae.length:=(dA.1 hob).1
 have hdk:st.np+d≠key:=fun e=>by rw[e,hob] at hf;cases hf
 have hnone:ρ (st.np+d)=none:=h.ae _ _ hf
 have hdlt:st.np+d<st.ae.length:=(dA.1 hf).1
 have hstp:cf (fun b=>bq vs=some b) w w':=cf.grown r3 (fun g hg=>hg)
 have hHas:∀(j:Nat) y b,(ho::hs')[j]?=some y→bq y=some b→Has st.ae ρ key b:=fun j y b hj hb=>⟨_,_,hob,rfl,p1,.inr ⟨_,rfl,y,by simpa using mS hj,hb⟩⟩
 have hρ:fu ρ (aw ρ (st.np+d) (.tuple (ho::hs'.set i v').toArray)):=fun j u hj=>by
  unfold aw
  split
  ·rename_i e;subst e;rw[hnone] at hj;cases hj
  ·exact hj
 have hlt:∀(j:Nat) y b,(ho::hs')[j]?=some y→bq y=some b→b<w.heap.size:=fun j y b hj hb=>h.lt (hHas j y b hj hb).ki
 have hvi:(ho::hs')[i+1]?=some vs:=by simpa using hsi
 have hnewH:∀(j:Nat) y,(ho::hs'.set i v')[j]?=some y→(j=i+1∧y=v')∨(j≠i+1∧(ho::hs')[j]?=some y):=fun j y hj=>by
  cases j with
  | zero=>exact .inr ⟨by omega,hj⟩
  | succ j=>
   simp only[T1,qU] at hj ⊢
   by_cases e:i=j
   ·subst e
    rw[aC rfl] at hj
    split at hj
    ·cases hj;exact .inl ⟨rfl,rfl⟩
    ·cases hj
   ·rw[aA e] at hj
    exact .inr ⟨by omega,hj⟩
 have hobj:((st.ae.set (st.np+d) (.rr (some i) e1 e2 inf.size (l.set i (old++m)))).set key (.fwd (st.np+d)))[st.np+d]?=some (.rr (some i) e1 e2 inf.size (l.set i (old++m))):=by
  rw[fC (fun e=>hdk e.symm),iI hdlt]
 have hobj2:((st.ae.set (st.np+d) (.rr (some i) e1 e2 inf.size (l.set i (old++m)))).set key (.fwd (st.np+d)))[key]?=some (.fwd (st.np+d)):=by
  rw[iI (by rw[cW];exact hklt)]
 have hnew:∀j b,(j=key∨j=st.np+d)→Has ((st.ae.set (st.np+d) (.rr (some i) e1 e2 inf.size (l.set i (old++m)))).set key (.fwd (st.np+d))) (aw ρ (st.np+d) (.tuple (ho::hs'.set i v').toArray)) j b →
  j=st.np+d∧(Has st.ae ρ key b∨w.heap.size≤b):=by
  intro j b hj hh
  obtain⟨o',u',q1,q2,q3,q4⟩:=hh
  rcases hj with rfl | rfl
  ·rw[hobj2] at q1
   cases q1;cases q2
  ·simp only[aw,eP,cC] at q3
   subst q3
   refine⟨rfl,?_⟩
   rcases q4 with q4 | ⟨ws,hws,y,hy1,hy2⟩
   ·cases q4
   ·cases hws
    obtain⟨j,hj,rfl⟩:=CN hy1
    have hj':(ho::hs'.set i v')[j]?=some _:=dG hj
    rcases hnewH j _ hj' with⟨_,e⟩ | ⟨_,e⟩
    ·rw[e] at hy2
     rcases r4 with r4 | r4
     ·exact .inl (hHas _ _ b hvi (r4▸hy2))
     ·rw[r4] at hy2;cases hy2;exact .inr (gU _)
    ·exact .inl (hHas _ _ b e hy2)
 have hoff:∀(j:Nat) y b,j≠i+1→(ho::hs')[j]?=some y→bq y=some b→¬bq vs=some b:=fun j y b hne hj hb hv=>hne (g5 j (i+1) y vs b hj hvi hb hv)
 refine⟨v',w',aw ρ (st.np+d) (.tuple (ho::hs'.set i v').toArray),_,.s (.c (.fh (st.np+d) i)),r1,?_,ay.one (c:=.fh (st.np+d) i) ⟨(ho::hs'.set i v').toArray,by simp[aw],by
  simp only[KZ,T1,qU]
  rw[aC trivial,aC (by omega)]⟩ r2.one,hk5⟩
 refine h.change _ _ (fun j=>j=key∨j=st.np+d) hstp (fun j hj=>⟨?_,by unfold aw;rw[aA (fun e=>hj (.inr e))]⟩) hρ (fun b hb=>⟨key,.inl rfl,hHas _ _ b hvi hb⟩)
  (fun j b hj hh=>?_) (fun j j' b hj hj' hh hh'=>(hnew j b hj hh).1.trans (hnew j' b hj' hh').1.symm) (fun hX j o' hj ho'=>?_) (fun j hj=>by unfold aw;rw[aA (by omega)])
 ·show ((st.ae.set (st.np+d) _).set key _)[j]?=_
  rw[fC (fun e=>hj (.inl e.symm)),fC (fun e=>hj (.inr e.symm))]
 ·rcases(hnew j b hj hh).2 with hb | hb
  ·exact .inl ⟨key,.inl rfl,hb⟩
  ·exact .inr hb
 ·have hYX:∀b,bq vs=some b→XB st.ae ρ Xc b:=fun b hb=>.inl ⟨key,hHas _ _ b hvi hb⟩
  rcases hj with rfl | rfl
  ·rw[hobj2] at ho'
   cases ho'
   refine⟨.tuple (ho::hs').toArray,?_,(ho::hs').toArray,(ho::hs'.set i v').toArray,rfl,by simp[aw],by simp⟩
   unfold aw;rw[aA (fun e=>hdk e.symm)];exact p1
  ·rw[hobj] at ho'
   cases ho'
   refine⟨_,by simp only[aw,eP],h0,ho,hs'.set i v',xs,rfl,?_,by rw[cW,cW,g2],fun j y z q1 q2=>?_,fun j mm y q1 q2=>?_,fun j1 j2 y z b q1 q2 q3 q4=>?_⟩
   ·rw[cW]
    exact g1.step hstp (fun b hb=>hoff 0 ho b (by omega) rfl hb)
   ·rw[qU] at q2
    by_cases e:i=j
    ·subst e
     have hj2:∃z0,hs'[i]?=some z0:=⟨_,hsi⟩
     obtain⟨z0,hz0⟩:=hj2
     exact⟨(g3 i y z0 q1 hz0).1,fun hne=>(hne rfl).elim⟩
    ·rw[aA e] at q2
     obtain⟨a1,a2⟩:=g3 j y z q1 q2
     exact⟨a1,fun _=>a2 (by simp)⟩
   ·rw[qU] at q1 q2
    by_cases e:i=j
    ·subst e
     rw[aC rfl,aC hilt] at q1
     rw[aC rfl,aC (by omega)] at q2
     cases q1
     cases q2
     refine⟨hul.append hum,_,by rw[tT];exact r2,?_⟩
     rw[yI]
     exact(hrl.append hys).step hstp hYX hX
    ·rw[aA e] at q1 q2
     obtain⟨a1,zs,a2,a3⟩:=g4 j mm y q1 q2
     exact⟨a1,zs,a2.step hstp (fun b hb=>hoff (j+1) y b (by omega) (by simpa using q2) hb),a3.step hstp hYX hX⟩
   ·rcases hnewH j1 y q1 with⟨a1,a2⟩ | ⟨a1,a2⟩ <;> rcases hnewH j2 z q2 with⟨b1,b2⟩ | ⟨b1,b2⟩
    ·omega
    ·subst a2
     rcases r4 with r4 | r4
     ·exact(hoff j2 z b b1 b2 q4 (r4▸q3)).elim
     ·rw[r4] at q3
      cases q3
      have:=hlt j2 z _ b2 q4
      omega
    ·subst b2
     rcases r4 with r4 | r4
     ·exact(hoff j1 y b a1 a2 q3 (r4▸q4)).elim
     ·rw[r4] at q4
      cases q4
      have:=hlt j1 y _ a2 q3
      omega
    ·exact g5 j1 j2 y z b a2 b2 q3 q4
theorem Aj{dst:Option Nat}{t u ty:TypeId}{s x:D}{vs vx:Value}{k:St→D→Option R}(h:Rel w0 F Xc ρ0 ρ st a w)(hs:ay w (XB st.ae ρ Xc) ρ s vs)(hx:ay w (XB st.ae ρ Xc) ρ x vx)
 (hk:zW P st dst t u s x k=some r):
 ∃y w' ρ' st' d,(Builtin.append_ #[t,u] ty #[vs,vx]).run P w=.ok y w'∧Rel w0 F Xc ρ0 ρ' st' a w'∧ay w' (XB st'.ae ρ' Xc) ρ' d y∧k st' d=some r:=by
 unfold zW at hk
 split at hk
 ·exact Je h hs hx hk
 ·exact Ai h hs hx hk
end
def T.ak:T→Option Int
 | .v (.int _ n)=>some n
 | _=>none
def T.mo:T→Option Int
 | .v (.slice none 0 0)=>some 0
 | .sl k l=>if k<1000000000 then some (aH l) else none
 | _=>none
@[irreducible] def Vb{α:Type}(l:List α)(lo hi:Int):Option (List α):=if 0≤hi∧hi≤l.length∧0≤lo∧lo≤hi then some ((l.take hi.toNat).drop lo.toNat) else none
@[irreducible] def vR(l c:Int)(b:Nat):Option (Nat×Nat):=if 0≤l∧l≤c∧(b:Int)*c≤281474976710656∧c≤maxLen then some (l.toNat,c.toNat) else none
@[irreducible] def E3{α:Type}(n:Nat)(x:α):List α:=List.replicate n x
def FG:Nat→Nat→List T→List T
 | 0,_,_=>[]
 | c+1,n,l=>Uu n (l.take n)::FG c n (l.drop n)
section
variable {R:Type} (P:Program)
def rM(d:D)(k:Int→Option R):Option R:=Q9 d fun x=>ob x.ak k
def CA(z:Value):Option (List C):=if z.cells.toList.all (fun v=>v.oneCell') then some (z.cells.toList.map fun v=>.t (.v v)) else none
def Vc(e:TypeId):Bool:=match P.underlying e with
 | some (.struct fs)=>match fs[0]? with
  | some f=>match P.underlying f.type with
   | some (.pointer e')=>e'==e
   | _=>false
  | none=>false
 | _=>false
def WZ(e:TypeId)(cs:List C):List C:=match cs with
 | .t (.v (.pointer none))::l=>if Vc P e=true then .self e::l else cs
 | _=>cs
def uM(st:St)(dst:Option Nat)(e:TypeId)(k:St→D→Option R):Option R:=
 match P.info? e with
 | some i=>match i.zero with
  | some z=>match CA z with
   | some cs=>qV st dst (.box (WZ P e cs)) fun st key=>k st (.s (.c (.box key 0)))
   | none=>none
  | none=>none
 | none=>none
def W0(st:St)(dst:Option Nat)(v:D)(k:St→D→Option R):Option R:=
 match FE v with
 | some cs=>if UI cs=none then qV st dst (.box cs) fun st key=>k st (.s (.c (.box key 0))) else none
 | none=>none
def JL:List Field→Option (List (Nat×Nat))
 | []=>some []
 | f::l=>match MS P f.type,JL l with
  | some n,some ps=>some ((f.offset,n)::ps)
  | _,_=>none
def IP(t:TypeId)(parts:List (Nat×D))(k:D→Option R):Option R:=
 match P.info? t with
 | some i=>match i.zero with
  | some z=>match CA z,P.underlying t with
   | some cs,some (.struct fields)=>match JL P fields.toList with
    | some ps=>match O1 (ps[·]?) cs parts with
     | some l=>k (.s (.agg l))
     | none=>none
    | none=>none
   | some cs,some (.array _ e)=>match MS P e with
    | some n=>match O1 (fun i=>some (i*n,n)) cs parts with
     | some l=>k (.s (.agg l))
     | none=>none
    | none=>none
   | _,_=>none
  | none=>none
 | none=>none
def LJ{R:Type}(P:Program)(t:TypeId)(x:D)(f:Nat)(k:D→Option R):Option R:=none
def uN(t:TypeId)(x:D)(f:Nat)(k:D→Option R):Option R:=
 match P.underlying t with
 | some (.struct fields)=>match fields[f]? with
  | some fd=>match MS P fd.type with
   | some n=>if n=0 then none else AI x fun c=>match c.shift fd.offset with
    | some c'=>k (.s (.c c'))
    | none=>none
   | none=>none
  | none=>none
 | _=>none
def IQ{R:Type}(i:Int)(k:Nat→Option R):Nat→Nat→Option R
 | 0,_=>none
 | n+1,m=>bif cV i m then k m else IQ i k n (m+1)
theorem MW{R:Type}{i:Int}{k:Nat→Option R}{r:R}:∀{n m0:Nat},IQ i k n m0=some r→∃m,m0≤m∧m<m0+n∧i=(m:Int)∧k m=some r
 | 0,m0,h=>by cases h
 | n+1,m0,h=>by
  unfold IQ at h
  cases he:cV i m0 with
  | true=>
   rw[he] at h
   unfold cV at he
   exact⟨m0,gU _,by omega,by simpa using he,h⟩
  | false=>
   rw[he] at h
   obtain⟨m,h1,h2,h3,h4⟩:=MW (n:=n) h
   exact⟨m,by omega,by omega,h3,h4⟩
theorem MX{R:Type}{i:Int}{f:Nat→Option D}{k:D→Option R}:∀(n m:Nat),IQ i (fun j=>(f j).bind k) n m=(IQ i f n m).bind k
 | 0,m=>rfl
 | n+1,m=>by
  unfold IQ
  cases cV i m with
  | true=>rfl
  | false=>exact MX n (m+1)
def kE(st:St)(t:TypeId)(x ix:D)(k:D→Option R):Option R:=
 match P.underlying t with
 | some (.slice e)=>match MS P e with
  | some n=>AI x fun c=>rM ix fun i=>match c with
   | .t x=>ob (x.kf n) fun l=>ob (cL l i) fun y=>k (.s (.c (.pe n y 0)))
   | .row key=>match st.ae[key]? with
    | some (.row _ _ n' es)=>if n'=n then ob (aV (aH es) i) fun m=>k (.s (.c (.ib key n m 0))) else none
    | _=>none
   | .cut key m lo len _=>match st.ae[key]? with
    | some (.row _ _ n' _)=>if n'=n∧m=n then ob (aV (UM len) i) fun q=>k (.s (.c (.ib key n (Ix lo q) 0))) else none
    | _=>none
   | .rk key=>match BO st.ae 64 key with
    | some K=>match st.ae[K]? with
     | some (.rr _ _ _ _ l)=>if n=1 then ob (aV (aH l) i) fun m=>k (.s (.c (.kn K m))) else none
     | _=>none
    | none=>none
   | _=>none
  | none=>none
 | some (.array len e)=>match MS P e with
  | some n=>AI x fun c=>rM ix fun i=>IQ i (fun m=>match c.shift (m*n) with
   | some c'=>k (.s (.c c'))
   | none=>none) len 0
  | none=>none
 | _=>none
def LL{R:Type}(P:Program)(t:TypeId)(x ix:D)(k:D→Option R):Option R:=none
def DG(d:Option D)(dflt:Int)(k:Int→Option R):Option R:=match d with
 | some d=>rM d k
 | none=>k dflt
def Ak(st:St)(n:Nat)(c:C):Option (Int×(Nat×Nat→Bool→C)):=match c with
 | .t y=>(y.kf n).map fun es=>(aH es,fun p _=>.t (.sl n (oC es p.1 p.2)))
 | .row key=>match st.ae[key]? with
  | some (.row _ _ n' es)=>if n'=n then some (aH es,fun p tg=>.cut key n p.1 p.2 tg) else none
  | _=>none
 | .cut key m b len _=>if m=n then some (UM len,fun p tg=>.cut key n (Ix b p.1) p.2 tg) else none
 | _=>none
def CB(st:St)(t:TypeId)(x:D)(lo hi mx:Option D)(k:D→Option R):Option R:=
 match P.underlying t with
 | some .string=>match mx with
  | none=>WL x fun s=>DG hi (Of s) fun h=>DG lo 0 fun l=>ob (Va s l h) fun s'=>k (dS s')
  | some _=>none
 | some (.slice e)=>match MS P e with
  | some n=>AI x fun c=>match mx,c with
   | none,.t y=>ob (y.kf n) fun es=>DG hi (aH es) fun h=>DG lo 0 fun l=>ob (Vb es l h) fun es'=>k (.s (.c (.t (.sl n es'))))
   | none,c=>ob (Ak st n c) fun q=>DG hi q.1 fun h=>DG lo 0 fun l=>ob (JJ q.1 l h) fun p=>k (.s (.c (q.2 p false)))
   | some m,c=>match hi with
    | some h=>ob (Ak st n c) fun q=>rM m fun m=>rM h fun h=>DG lo 0 fun l=>ob (Si q.1 l h m) fun p=>k (.s (.c (q.2 p true)))
    | none=>none
  | none=>none
 | _=>none
def G1{R:Type}(P:Program)(st:St)(t:TypeId)(x:D)(k:St→D→Option R):Option R:=none
def Sl(P:Program)(t:TypeId):Bool:=match P.underlying t with
 | some (.array _ _)=>true
 | _=>false
def AZ(st:St)(t:TypeId)(x:D)(lo hi mx:Option D)(k:St→D→Option R):Option R:=
 if Sl P t=true then (if lo.isNone=true∧hi.isNone=true∧mx.isNone=true then G1 P st t x k else none) else CB P st t x lo hi mx fun d=>k st d
def E4(st:St)(t:TypeId)(x:D)(k:D→Option R):Option R:=
 match P.underlying t with
 | some .string=>WL x fun s=>k (dI .i64 (Of s))
 | some (.slice _)=>AI x fun c=>match c with
  | .t y=>ob y.mo fun n=>k (dI .i64 n)
  | .row key=>match st.ae[key]? with
   | some (.row _ _ _ es)=>k (dI .i64 (aH es))
   | _=>none
  | .cut _ _ _ len _=>k (dI .i64 (UM len))
  | .rk key=>match BO st.ae 64 key with
   | some K=>match st.ae[K]? with
    | some (.rr _ _ _ _ l)=>k (dI .i64 (aH l))
    | _=>none
   | none=>none
  | _=>none
 | some (.array n _)=>k (dI .i64 n)
 | some (.map _ _)=>AI x fun c=>match c with
  | .t (.sl n l)=>if 1000000000≤n then k (dI .i64 (aH l)) else none
  | .row key=>match st.ae[key]? with
   | some (.mp _ _ _ es)=>k (dI .i64 (aH es))
   | _=>none
  | _=>none
 | _=>none
def A1(x:D)(i:Nat)(k:D→Option R):Option R:=match x with
 | .ee l=>match l[i]? with
  | some s=>k (.s s)
  | none=>none
 | _=>none
def LM:List D→Option (List (Nat×Nat))
 | []=>some []
 | .s (.c (.box k j))::l=>(LM l).map ((k,j)::·)
 | _=>none
def xF(fn:Fn)(first captured:List D)(k:D→Option R):Option R:=match fn,first with
 | .func f,[]=>match LM captured with
  | some []=>k (.s (.c (.t (.v (.func (.func f) #[] #[])))))
  | some caps=>k (.s (.c (.fn f caps)))
  | none=>none
 | _,_=>none
def sF(st:St)(dst:Option Nat)(t:TypeId)(l c:D)(k:St→D→Option R):Option R:=
 match P.underlying t with
 | some (.slice e)=>match P.info? e with
  | some i=>match i.zero with
   | some z=>match CA z with
    | some cs=>match GY cs with
     | some ts=>if ts.length=i.size∧(0<i.size∧i.size<1000000000) then rM l fun l=>rM c fun c=>ob (vR l c i.bytes) fun p=>
      qV st dst (.row false e i.size (E3 p.1 (Uu i.size ts))) fun st key=>k st (.s (.c (.row key)))
      else none
     | none=>none
    | none=>none
   | none=>none
  | none=>none
 | _=>none
def BV(st:St)(dst:Option Nat)(t:TypeId)(l c:D)(k:St→D→Option R):Option R:=
 match P.underlying t with
 | some (.slice e)=>match P.info? e,P.underlying e with
  | some i,some (.slice e2)=>match i.zero,MS P e2 with
   | some (.slice none 0 0),some n=>if i.size=1∧(0<n∧n<1000000000) then rM l fun l=>rM c fun c=>ob (vR l c i.bytes) fun p=>
    qV st dst (.rr none e e2 n (E3 p.1 [])) fun st key=>k st (.s (.c (.rk key)))
    else none
   | _,_=>none
  | _,_=>none
 | _=>none
def oD(st:St)(dst:Option Nat)(t:TypeId)(len:Nat)(parts:List (Nat×D))(k:St→D→Option R):Option R:=
 match P.underlying t with
 | some (.slice e)=>match P.info? e with
  | some i=>match i.zero with
   | some z=>match CA z with
    | some cs=>if cs.length=i.size∧(0<i.size∧i.size<1000000000)∧0<len∧len*i.size≤2 ^ 24 then
     match O1 (fun q=>some (q*i.size,i.size)) ((List.range len).flatMap fun _=>cs) parts with
     | some l=>match RI st.ae l with
      | some q=>match P.cellTypes P.depth e with
       | some tys=>oW P (List.replicate len tys).flatten q.2 fun ts=>qV { st with ae:=q.1 } dst (.row false e i.size (FG len i.size ts)) fun st key=>k st (.s (.c (.row key)))
       | none=>none
      | none=>none
     | none=>none
     else none
    | none=>none
   | none=>none
  | none=>none
 | _=>none
def kP(st:St)(dst:Option Nat)(t:TypeId)(len:Nat)(parts:List (Nat×D))(k:St→D→Option R):Option R:=
 if len=0∧parts.isEmpty=true then match P.underlying t with
  | some (.slice e)=>match MS P e with
   | some n=>if 0<n∧n<1000000000 then qV st dst (.row false e n []) fun st key=>k st (.s (.c (.row key))) else none
   | none=>none
  | _=>none
 else oD P st dst t len parts k
end
section
variable {R:Type} {P:Program} {w0 w w':World} {F Xc X:Nat→Prop} {ρ0:cn} {ρ:nT} {st:St} {a:Act} {r:R}
theorem sV{d:D}{y:Value}{k:Int→Option R}(h:ay w X ρ d y)(hk:rM d k=some r):∃kd n,y=.int kd n∧k n=some r:=by
 obtain⟨x,_,hx,_,hk1⟩:=UJ h hk
 obtain⟨n,hn,hk2⟩:=bK hk1
 unfold T.ak at hn
 split at hn
 ·cases hn;exact⟨_,_,hx.cq,hk2⟩
 ·cases hn
theorem xZ{e:TypeId}{i:TypeInfo}{z:Value}(hi:P.info? e=some i)(hz:i.zero=some z)(w:World):(zeroValue e).run P w=.ok z w:=by
 simp[zeroValue,typeInfo,hi,hz]
theorem CS{z:Value}{cs:List C}(h:CA z=some cs):bu w X ρ cs z.cells.toList∧(∀v∈z.cells.toList,v.oneCell'=true):=by
 unfold CA at h
 split at h
 ·rename_i hall
  cases h
  have h1:∀v∈z.cells.toList,v.oneCell'=true:=jF.1 hall
  refine⟨⟨by simp,fun i c y e1 e2=>?_⟩,h1⟩
  rw[eW,e2] at e1
  cases e1
  exact .inr ⟨.v y,h1 y (mS e2)⟩
 ·cases h
theorem O6{z:Value}{cs:List C}(h:CA z=some cs){i:Nat}{c:C}(hc:cs[i]?=some c):∃y,c=.t (.v y)∧z.cells[i]?=some y:=by
 unfold CA at h
 split at h
 ·cases h
  rw[eW] at hc
  cases hz:z.cells.toList[i]? with
  | none=>simp[hz] at hc
  | some u=>simp only[hz,fH,cC] at hc;exact⟨u,hc.symm,by simpa using hz⟩
 ·cases h
theorem Jf{g:Nat}{e:TypeId}{z:Value}{cs:List C}(hc:CA z=some cs):bu w X ρ (WZ P e cs) z.cells.toList∧cz (WZ P e cs) g z.cells e:=by
 obtain⟨hl,_⟩:=CS (w:=w) (X:=X) (ρ:=ρ) hc
 have hn:UI cs=none:=by
  cases ht:UI cs with
  | none=>rfl
  | some t=>obtain⟨y,h1,_⟩:=O6 hc (CP.1 ht);cases h1
 unfold WZ
 split
 ·rename_i l
  split
  ·refine⟨⟨hl.1,fun i c y h1 h2=>?_⟩,fun t ht=>?_⟩
   ·cases i with
    | zero=>
     simp only[AT,cC] at h1
     subst h1
     rcases hl.2 0 _ y rfl h2 with h | ⟨_,h⟩
     ·cases h
     ·exact .inr ⟨trivial,h⟩
    | succ i=>exact hl.2 (i+1) c y (by simpa using h1) h2
   ·cases ht
    obtain⟨y,h1,h2⟩:=O6 hc (i:=0) rfl
    cases h1
    exact⟨rfl,_,h2,.inl rfl⟩
  ·exact⟨hl,.none hn⟩
 ·exact⟨hl,.none hn⟩
theorem SI{dst:Option Nat}{cs:List C}{ys:Array Value}{k:St→Nat→Option R}(e:TypeId)(h:Rel w0 F Xc ρ0 ρ st a w)(hl:bu w (XB st.ae ρ Xc) ρ cs ys.toList)(hhd:cz cs w.heap.size ys e)(hk:qV st dst (.box cs) k=some r):
 ∃ρ' st' key,Rel w0 F Xc ρ0 ρ' st' a (w.alloc (.cells ys e))∧ay (w.alloc (.cells ys e)) (XB st'.ae ρ' Xc) ρ' (.s (.c (.box key 0))) (.pointer (some ⟨w.heap.size,0,none⟩))∧k st' key=some r:=by
 obtain⟨d,_,hf,hk1⟩:=DE hk
 obtain⟨ρ',hR,_,hρ⟩:=h.lj e hf hl hhd (HQ _ _)
 exact⟨ρ',_,_,hR,.one (c:=.box (st.np+d) 0) ⟨_,hρ,_,rfl,rfl⟩ rfl,hk1⟩
theorem Fr{dst:Option Nat}{e:TypeId}{k:St→D→Option R}(h:Rel w0 F Xc ρ0 ρ st a w)(hk:uM P st dst e k=some r):
 ∃y w' ρ' st' d,(Instr.alloc e true (.tuple #[])).run P w=.ok y w'∧Rel w0 F Xc ρ0 ρ' st' a w'∧ay w' (XB st'.ae ρ' Xc) ρ' d y∧k st' d=some r:=by
 unfold uM at hk
 split at hk
 case h_2=>cases hk
 rename_i i hi
 split at hk
 case h_2=>cases hk
 rename_i z hz
 split at hk
 case h_2=>cases hk
 rename_i cs hcs
 obtain⟨hl2,hh2⟩:=Jf (P:=P) (w:=w) (X:=XB st.ae ρ Xc) (ρ:=ρ) (g:=w.heap.size) (e:=e) hcs
 obtain⟨ρ',st',key,hR,hd,hk1⟩:=SI (ys:=z.cells) e h hl2 hh2 hk
 refine⟨_,_,ρ',st',_,?_,hR,hd,hk1⟩
 simp[Instr.alloc,xZ hi hz,newVar,newRow]
theorem Ol{dst:Option Nat}{e:TypeId}{v:D}{vv:Value}{k:St→D→Option R}(h:Rel w0 F Xc ρ0 ρ st a w)(hv:ay w (XB st.ae ρ Xc) ρ v vv)(hk:W0 st dst v k=some r):
 ∃y w' ρ' st' d,(Instr.box e vv).run P w=.ok y w'∧Rel w0 F Xc ρ0 ρ' st' a w'∧ay w' (XB st'.ae ρ' Xc) ρ' d y∧k st' d=some r:=by
 unfold W0 at hk
 split at hk
 case h_2=>cases hk
 rename_i cs hcs
 split at hk
 case isFalse=>cases hk
 rename_i htl
 obtain⟨ρ',st',key,hR,hd,hk1⟩:=SI (ys:=vv.cells) e h (CQ hv hcs) (.none htl) hk
 refine⟨_,_,ρ',st',_,?_,hR,hd,hk1⟩
 simp[Instr.box,newVar,newRow]
theorem EQ:∀(fs:List Field) (ps:List (Nat×Nat)),JL P fs=some ps→(fs.mapM (fun f=>do pure (f.offset,←sizeOf f.type):Field→Sem (Nat×Nat))).run P w=.ok ps w
 | [],ps,h=>by simp only[JL,cC] at h;subst h;simp
 | f::l,ps,h=>by
  simp only[JL] at h
  split at h
  ·rename_i n qs hn hq
   cases h
   have ih:=EQ l qs hq
   rw[ZI]
   simp only[bO,iT hn,dM,iL,ih]
  ·cases h
theorem Fs{t:TypeId}{parts:List (Nat×D)}{vparts:Array (Nat×Value)}{k:D→Option R}(hlen:parts.length=vparts.toList.length)
 (hp:∀(i:Nat) p q,parts[i]?=some p→vparts.toList[i]?=some q→p.1=q.1∧ay w X ρ p.2 q.2) (hk:IP P t parts k=some r):
 ∃y d,(Instr.build t vparts).run P w=.ok y w∧ay w X ρ d y∧k d=some r:=by
 unfold IP at hk
 split at hk
 case h_2=>cases hk
 rename_i i hi
 split at hk
 case h_2=>cases hk
 rename_i z hz
 split at hk
 ·rename_i cs fields hcs hu
  split at hk
  case h_2=>cases hk
  rename_i ps hps
  split at hk
  case h_2=>cases hk
  rename_i l hl
  obtain⟨h1,_⟩:=CS (w:=w) (X:=X) (ρ:=ρ) hcs
  obtain⟨ys',e1,e2⟩:=JI _ parts vparts.toList cs z.cells l h1 hlen hp hl
  refine⟨.agg ys',.s (.agg l),?_,⟨ys',rfl,e2⟩,hk⟩
  have hm:=EQ (P:=P) (w:=w) fields.toList ps hps
  unfold Instr.build
  simp only[bO,xZ hi hz,qT hu,dM]
  rw[ZR]
  simp only[ZS,hm,dM]
  have:(fun(x:Nat)=>ps.toArray[x]?)=(fun(x:Nat)=>ps[x]?):=by funext x;simp
  rw[this,e1]
  rfl
 ·rename_i cs ln e hcs hu
  split at hk
  case h_2=>cases hk
  rename_i n hn
  split at hk
  case h_2=>cases hk
  rename_i l hl
  obtain⟨h1,_⟩:=CS (w:=w) (X:=X) (ρ:=ρ) hcs
  obtain⟨ys',e1,e2⟩:=JI _ parts vparts.toList cs z.cells l h1 hlen hp hl
  refine⟨.agg ys',.s (.agg l),?_,⟨ys',rfl,e2⟩,hk⟩
  unfold Instr.build
  simp only[bO,xZ hi hz,qT hu,dM,iT hn,e1]
  rfl
 ·cases hk
theorem Ft{t:TypeId}{x:D}{v:Value}{f:Nat}{k:D→Option R}(h:ay w X ρ x v)(hk:LJ P t x f k=some r):
 ∃y d,(Instr.field t v f).run P w=.ok y w∧ay w X ρ d y∧k d=some r:=by
 unfold LJ at hk
 cases hk
theorem RJ{t:TypeId}{x:D}{v:Value}{f:Nat}{k:D→Option R}(h:ay w X ρ x v)(hk:uN P t x f k=some r):
 ∃y d,(Instr.fieldAt t v f).run P w=.ok y w∧ay w X ρ d y∧k d=some r:=by
 unfold uN at hk
 split at hk
 case h_2=>cases hk
 rename_i fields hu
 split at hk
 case h_2=>cases hk
 rename_i fd hf
 split at hk
 case h_2=>cases hk
 rename_i n hn
 split at hk
 case isTrue=>cases hk
 rename_i hn0
 obtain⟨c,rfl,hc,hk1⟩:=vN h hk
 clear hk
 split at hk1
 case h_2=>cases hk1
 rename_i c' hc'
 obtain⟨ad,rfl,hr⟩:=WS hc hc'
 refine⟨_,_,?_,.one hr rfl,hk1⟩
 unfold Instr.fieldAt
 simp only[bO,qT hu,dM,hf,Instr.sureAddr,iL,fieldPlace,iT hn,aA hn0]
theorem RK{t:TypeId}{x ix:D}{v vi:Value}{k:D→Option R}(hR:Rel w0 F Xc ρ0 ρ st a w)(h:ay w (XB st.ae ρ Xc) ρ x v)(hi:ay w (XB st.ae ρ Xc) ρ ix vi)(hk:kE P st t x ix k=some r):
 ∃y d,(Instr.indexAt t v vi).run P w=.ok y w∧ay w (XB st.ae ρ Xc) ρ d y∧k d=some r:=by
 unfold kE at hk
 split at hk
 ·rename_i e hu
  split at hk
  case h_2=>cases hk
  rename_i n hn
  obtain⟨c,rfl,hc,hk1⟩:=vN h hk
  obtain⟨kd,i,rfl,hk2⟩:=sV hi hk1
  clear hk hk1
  split at hk2
  ·rename_i y
   obtain⟨l,hl,hk3⟩:=bK hk2
   obtain⟨z,hz,hk4⟩:=bK hk3
   obtain⟨h0,hz⟩:=Fm hz
   rcases hc with hc | ⟨hc,_⟩
   ·cases hc
   ·obtain⟨hnm,hl⟩:=T.fj hl
    unfold T.il at hl
    split at hl
    ·rw[aC hnm] at hl;cases hl;simp at hz
    ·split at hl
     ·rename_i hkk
      cases hl
      subst hkk
      have hc0:Rd w (XB st.ae ρ Xc) (.sl _ l) v:=hc
      cases hc with
      | mp _ _ _ _ _ hbig=>omega
      | nil=>simp at hz
      | sl _ _ ad q ys _ hq hm hu' hy hcell hr=>
       obtain⟨_,hp⟩:=hc0.elem hz
       have hlt:i.toNat<l.length:=(dA.1 hz).1
       refine⟨.pointer (some (ad.add (i.toNat*_))),_,?_,.one (c:=.pe _ z 0) ⟨_,rfl,hp⟩ rfl,hk4⟩
       unfold Instr.indexAt
       simp only[asIntOf,bO,iL,qT hu,dM]
       rw[IH,aC (by omega)]
       simp only[bO,iT hn,dM,iL]
     ·cases hl
    ·cases hl
  ·rename_i key
   split at hk2
   case h_2=>cases hk2
   rename_i fz e' n' es hob
   split at hk2
   case isFalse=>cases hk2
   rename_i hnn
   subst hnn
   obtain⟨m,hm,hk3⟩:=bK hk2
   obtain⟨m0,m1,m2,m3⟩:=LF hm
   unfold aH at m1
   rcases hc with hc | ⟨hc,_⟩
   ·cases hc
   ·obtain⟨hv,e1,e2⟩:=hR.ae key _ hob
    simp only[ia] at hc
    have hcc:=hc
    rw[hc] at e1
    cases e1
    rcases pI e2 with⟨rfl,rfl⟩ | ⟨a0,cap,rfl,h1,h2,xs,hr,hcell⟩
    ·simp at m1;omega
    ·refine⟨.pointer (some (a0.add (i.toNat*n'))),_,?_,.one (c:=.ib key n' m 0) ⟨_,hcc,_,rfl,by rw[m3,rS]⟩ rfl,hk3⟩
     unfold Instr.indexAt
     simp only[asIntOf,bO,iL,qT hu,dM]
     rw[IH,aC (by omega)]
     simp only[bO,iT hn,dM,iL]
  ·rename_i key m lo len tg
   split at hk2
   case h_2=>cases hk2
   rename_i fz e' n' es hob
   split at hk2
   case isFalse=>cases hk2
   rename_i hnn
   obtain⟨rfl,rfl⟩:=hnn
   obtain⟨q,hq,hk3⟩:=bK hk2
   obtain⟨m0,m1,m2,m3⟩:=LF hq
   unfold UM at m1
   unfold Ix at hk3
   rcases hc with hc | ⟨⟨hv,q1,q2⟩,_⟩
   ·cases hc
   ·obtain⟨ao,L,c,cc,ao',rfl,rfl,g1,g2,g3,g4,_⟩:=q2
    have g5:=g4 (by omega)
    cases ao with
    | none=>
     exfalso
     obtain⟨hv',e1,e2⟩:=hR.ae key _ hob
     rw[q1] at e1
     cases e1
     rcases pI e2 with⟨e3,_⟩ | ⟨a0,cap,e3,_⟩
     ·cases e3;omega
     ·cases e3
    | some a0=>
     subst g5
     refine⟨.pointer (some ((a0.add (lo*m)).add (i.toNat*m))),_,?_,.one (c:=.ib key m (lo+q) 0) ⟨_,q1,_,rfl,by rw[sU,m3,rS,tU]⟩ rfl,hk3⟩
     unfold Instr.indexAt
     simp only[fH,asIntOf,bO,iL,qT hu,dM]
     rw[IH,aC (by omega)]
     simp only[bO,iT hn,dM,iL]
  ·rename_i key
   split at hk2
   case h_2=>cases hk2
   rename_i K hK
   split at hk2
   case h_2=>cases hk2
   rename_i l0 hob
   split at hk2
   case isFalse=>cases hk2
   rename_i hn1
   obtain⟨m,hm,hk3⟩:=bK hk2
   obtain⟨m0,m1,m2,m3⟩:=LF hm
   unfold aH at m1
   rcases hc with hc | ⟨⟨vs,q1,q2⟩,_⟩
   ·cases hc
   ·obtain⟨hole,e',e2,n',l,vs',f1,f2,f3,f4⟩:=DD hR hK q1
    rw[hob] at f1
    cases f1
    subst hn1
    rcases f4.head (f3.trans q2) with⟨rfl,rfl⟩ | ⟨a0,cap,rfl⟩
    ·simp at m1;omega
    ·refine⟨.pointer (some (a0.add (i.toNat*1))),_,?_,.one (c:=.kn K m) ⟨vs',_,f2,f3.trans q2,a0,rfl,by rw[m3,MP]⟩ rfl,hk3⟩
     unfold Instr.indexAt
     simp only[asIntOf,bO,iL,qT hu,dM]
     rw[IH,aC (by omega)]
     simp only[bO,iT hn,dM,iL]
  ·cases hk2
 ·rename_i ln e hu
  split at hk
  case h_2=>cases hk
  rename_i n hn
  obtain⟨c,rfl,hc,hk1⟩:=vN h hk
  obtain⟨kd,i,rfl,hk2⟩:=sV hi hk1
  obtain⟨m,_,hm,hmi,hk3⟩:=MW hk2
  clear hk hk1 hk2
  have m0:0≤i:=by omega
  have m1:i<ln:=by omega
  have m3:i.toNat=m:=by omega
  split at hk3
  case h_2=>cases hk3
  rename_i c' hc'
  obtain⟨ad,rfl,hr⟩:=WS hc hc'
  refine⟨_,_,?_,.one hr rfl,hk3⟩
  unfold Instr.indexAt
  simp only[asIntOf,bO,iL,qT hu,dM,Instr.sureAddr]
  rw[IH,aC (by omega),m3]
  simp only[bO,iT hn,dM,iL]
 ·cases hk
theorem Fu{t:TypeId}{x ix:D}{v vi:Value}{k:D→Option R}(h:ay w X ρ x v)(hi:ay w X ρ ix vi)(hk:LL P t x ix k=some r):
 ∃y d,(Instr.index t v vi).run P w=.ok y w∧ay w X ρ d y∧k d=some r:=by
 unfold LL at hk
 cases hk
theorem W3{x:D}{v:Value}{i:Nat}{k:D→Option R}(h:ay w X ρ x v)(hk:A1 x i k=some r):
 ∃y d,(Instr.extract v i).run P w=.ok y w∧ay w X ρ d y∧k d=some r:=by
 unfold A1 at hk
 split at hk
 ·rename_i l
  split at hk
  ·rename_i s hs
   obtain⟨vs,rfl,hl⟩:=h
   have hlt:i<l.length:=(dA.1 hs).1
   have hv:vs.toList[i]?=some (vs.toList[i]'(by rw[hl.1];exact hlt)):=dG _
   have hv':vs[i]?=some (vs.toList[i]'(by rw[hl.1];exact hlt)):=by rw[←hv,MK]
   refine⟨_,.s s,?_,hl.2 i s _ hs hv,hk⟩
   simp only[Instr.extract,hv',iL]
  ·cases hk
 ·cases hk
end
def M1(P:Program)(kt:TypeId):Option Nat:=match P.underlying kt with
 | some (.int .i64)=>some 0
 | _=>none
def NG:T→T→Bool
 | .v (.int .i64 a),.v (.int .i64 b)=>a==b
 | _,_=>false
def IW:T→T
 | .agg (k::_)=>k
 | t=>t
def Sq:T→T
 | .agg [_,v]=>v
 | t=>t
def lF(k:T)(l:List T):Option Nat:=l.findIdx? fun t=>NG k (IW t)
theorem xH{c:Nat}{k:T}{v:Value}(h:DB c k=some v):c=0∧∃a,k=.v (.int .i64 a)∧v=.int .i64 a:=by
 unfold DB at h
 split at h
 ·cases h;exact⟨rfl,_,rfl,rfl⟩
 ·cases h
theorem Jp{c:Nat}{k k':T}{v v':Value}(h:DB c k=some v)(h':DB c k'=some v'):NG k k'=true↔v=v':=by
 obtain⟨_,a,rfl,rfl⟩:=xH h
 obtain⟨_,b,rfl,rfl⟩:=xH h'
 simp[NG]
section
variable {P:Program} {w:World} {X:Nat→Prop} {ρ:nT}
theorem Gd{kt:TypeId}{c:Nat}{k:T}{v:Value}(hk:M1 P kt=some c)(hv:DB c k=some v)(em:Bool)(w:World):(Instr.checkKey em 10000 kt v).run P w=.ok () w:=by
 unfold M1 at hk
 split at hk
 ·rename_i hu
  obtain⟨_,a,rfl,rfl⟩:=xH hv
  exact MapKept.run_checkKey hu (k:=.int .i64 a) rfl em 9999
 ·cases hk
def gf(c:Nat):List T→List MapEntry→Prop
 | [],[]=>True
 | t::l,e::es=>(∃k v,t=.agg [k,v]∧DB c k=some e.key)∧gf c l es
 | _,_=>False
theorem gf.of:∀{c:Nat} {l:List T} {es:List MapEntry},es.length=l.length→(∀(i:Nat) t e,l[i]?=some t→es[i]?=some e→∃k v,t=.agg [k,v]∧DB c k=some e.key∧WP v e.val)→gf c l es
 | _,[],[],_,_=>trivial
 | _,[],_::_,h,_=>by simp at h
 | _,_::_,[],h,_=>by simp at h
 | c,t::l,e::es,h,hs=>by
  obtain⟨k,v,h1,h2,_⟩:=hs 0 t e rfl rfl
  exact⟨⟨k,v,h1,h2⟩,gf.of (by simpa using h) fun i t e a b=>hs (i+1) t e (by simpa using a) (by simpa using b)⟩
theorem PD{d:TypeDesc}{c:Nat}{k:T}{v:Value}(hd:∀{k' v'},DB c k'=some v'→Instr.sameNow d v v'=some (NG k k')):∀(l:List T) (es:List MapEntry) (i:Nat),gf c l es →
 Instr.findNow d v es i=some ((lF k l).bind fun j=>(es[j]?).map fun e=>(i+j,e.val))
 | [],[],_,_=>rfl
 | [],_::_,_,h=>h.elim
 | _::_,[],_,h=>h.elim
 | t::l,e::es,i,⟨⟨k',u,h1,h2⟩,h3⟩=>by
  subst h1
  simp only[Instr.findNow,hd h2]
  unfold lF
  rw[List.findIdx?_cons]
  have hek:∀u,IW (T.agg [k',u])=k':=fun _=>rfl
  rw[hek]
  cases hb:NG k k' with
  | true=>simp
  | false=>
   simp only[pB,iK]
   rw[PD hd l es (i+1) h3]
   unfold lF
   cases l.findIdx? (fun t=>NG k (IW t)) with
   | none=>rfl
   | some j=>
    simp only[fH,uX,T1]
    have:i+1+j=i+(j+1):=by omega
    rw[this]
theorem Jq{kt:TypeId}{c:Nat}{k:T}{v:Value}(hk:M1 P kt=some c)(hv:DB c k=some v){l:List T}{es:List MapEntry}(h:gf c l es)(w:World):
 (Instr.findKey kt v es).run P w=.ok ((lF k l).bind fun j=>(es[j]?).map fun e=>(j,e.val)) w:=by
 unfold M1 at hk
 split at hk
 ·rename_i hu
  cases hk
  have hd:∀{k' v'},DB 0 k'=some v'→Instr.sameNow (.int .i64) v v'=some (NG k k'):=fun {k' v'} h'=>by
   obtain⟨_,a,rfl,rfl⟩:=xH hv
   obtain⟨_,b,rfl,rfl⟩:=xH h'
   simp[Instr.sameNow,NG]
  have:=MapKept.run_findKey (w:=w) hu (PD hd l es 0 h)
  simpa only[OO] using this
 ·cases hk
theorem Ge{c:Nat}{k:T}{v:Value}(hv:DB c k=some v)(w:World):(Instr.keyThatStays v v).run P w=.ok v w:=by
 obtain⟨_,a,rfl,rfl⟩:=xH hv
 unfold Instr.keyThatStays
 rw[aC (by simp[Instr.sameBits])]
 rfl
end
@[irreducible] def Wy(k:T)(l:List T)(z:T):T:=match lF k l with
 | some i=>Sq (l.getD i z)
 | none=>z
@[irreducible] def yW(k v:T)(l:List T):List T:=match lF k l with
 | some i=>l.set i (.agg [k,v])
 | none=>l++[.agg [k,v]]
@[irreducible] def Wz(i:Int)(v:T)(l:List T):Option (List T):=if 0≤i then match l[i.toNat]? with
 | some t=>some (l.set i.toNat (.agg [IW t,v]))
 | none=>none else none
section
variable {R:Type} (P:Program)
def Ou(c:Nat)(d:D)(k:T→Option R):Option R:=match c with
 | 0=>RE .i64 d fun a=>k (.v (.int .i64 a))
 | _=>none
def Xf(st:St)(n:Nat)(c:C)(k:List T→Option R):Option R:=match c with
 | .t (.sl n' l)=>if n'=n then k l else none
 | .row key=>match st.ae[key]? with
  | some (.mp _ _ n' l)=>if n'=n then k l else none
  | _=>none
 | _=>none
def G3{R:Type}(P:Program)(st:St)(t:TypeId)(x ix:D)(ok:Bool)(k:D→Option R):Option R:=none
def A4(st:St)(dst:Option Nat)(t:TypeId)(k:St→D→Option R):Option R:=match P.underlying t with
 | some (.map kt _)=>match M1 P kt with
  | some c=>qV st dst (.mp false t (c+1000000000) []) fun st key=>k st (.s (.c (.row key)))
  | none=>none
 | _=>none
def Xg(v:D)(ts:List T):Option T:=match v,ts with
 | .s (.agg _),ts=>some (.agg ts)
 | .s (.c _),[t]=>some t
 | _,_=>none
def zY(st:St)(t:TypeId)(m key v:D)(k:St→Option R):Option R:=match P.underlying t with
 | some (.map kt e)=>match M1 P kt with
  | some c=>Ou c key fun kk=>match m,FE v with
   | .s (.c (.row mk)),some cs=>match RI st.ae cs with
    | some (objs',cs')=>match objs'[mk]? with
     | some (.mp false t' n l)=>if n=c+1000000000 then oW P ((P.cellTypes P.depth e).getD []) cs' fun ts=>match Xg v ts with
      | some tv=>k { st with ae:=objs'.set mk (.mp false t' n (yW kk tv l)) }
      | none=>none
      else none
     | _=>none
    | none=>none
   | _,_=>none
  | none=>none
 | _=>none
def G4{R:Type}(P:Program)(st:St)(t:TypeId)(m key:D)(k:St→D→Option R):Option R:=none
def AK{R:Type}(P:Program)(st:St)(t:TypeId)(m stamp v:D)(k:St→Option R):Option R:=none
end
section
variable {R:Type} {P:Program} {w0 w w':World} {F Xc X:Nat→Prop} {ρ0:cn} {ρ:nT} {st:St} {a:Act} {r:R}
theorem Ov{c:Nat}{d:D}{y:Value}{k:T→Option R}(h:ay w X ρ d y)(hk:Ou c d k=some r):∃t,DB c t=some y∧k t=some r:=by
 match c with
 | 0=>
  obtain⟨n,rfl,hk1⟩:=AV h hk
  exact⟨_,rfl,hk1⟩
 | _+1=>cases hk
theorem JO{k:T}{l:List T}{i:Nat}(h:lF k l=some i):∃t,l[i]?=some t∧NG k (IW t)=true:=by
 unfold lF at h
 rw[List.findIdx?_eq_some_iff_getElem] at h
 obtain⟨hi,h1,_⟩:=h
 exact⟨l[i],dG hi,h1⟩
theorem Jr{n c:Nat}{kt:TypeId}{l:List T}{es:Array MapEntry}{kk:T}{kv:Value}(hkd:M1 P kt=some c)(hkv:DB c kk=some kv)(hn:n=c+1000000000)(hl:es.size=l.length)
 (hs:∀(i:Nat) t e,l[i]?=some t→es[i]?=some e→∃k v,t=.agg [k,v]∧DB (n-1000000000) k=some e.key∧WP v e.val) (w:World):
 (lF kk l=none∧(Instr.findKey kt kv es.toList).run P w=.ok none w) ∨
 ∃i k v e,lF kk l=some i∧l[i]?=some (.agg [k,v])∧es[i]?=some e∧e.key=kv∧WP v e.val∧(Instr.findKey kt kv es.toList).run P w=.ok (some (i,e.val)) w:=by
 have hc:n-1000000000=c:=by omega
 rw[hc] at hs
 have hr:gf c l es.toList:=gf.of (by simpa using hl) fun i t e h1 h2=>hs i t e h1 (by simpa using h2)
 have hf:=Jq hkd hkv hr w
 cases hm:lF kk l with
 | none=>rw[hm] at hf;exact .inl ⟨rfl,hf⟩
 | some i=>
  obtain⟨t,h1,h2⟩:=JO hm
  have hlt:i<es.size:=by rw[hl];exact(dA.1 h1).1
  have he:es[i]?=some es[i]:=vL hlt
  obtain⟨k,v,rfl,hk,ho⟩:=hs i t _ h1 he
  rw[hm] at hf
  have:es.toList[i]?=some es[i]:=by simp
  simp only[uX,this,fH] at hf
  refine .inr ⟨i,k,v,es[i],rfl,h1,he,?_,ho,hf⟩
  exact((Jp hkv hk).1 h2).symm
theorem Ap{t:TypeId}{x ix:D}{vx vi:Value}{ok:Bool}{k:D→Option R}(h:Rel w0 F Xc ρ0 ρ st a w)(hx:ay w (XB st.ae ρ Xc) ρ x vx)(hi:ay w (XB st.ae ρ Xc) ρ ix vi)(hk:G3 P st t x ix ok k=some r):
 ∃y d,(Instr.lookup t vx vi ok).run P w=.ok y w∧ay w (XB st.ae ρ Xc) ρ d y∧k d=some r:=by
 unfold G3 at hk
 cases hk
theorem XD{dst:Option Nat}{t:TypeId}{k:St→D→Option R}(h:Rel w0 F Xc ρ0 ρ st a w)(hk:A4 P st dst t k=some r):
 ∃y w' ρ' st' d,(Instr.makeMap t none).run P w=.ok y w'∧Rel w0 F Xc ρ0 ρ' st' a w'∧ay w' (XB st'.ae ρ' Xc) ρ' d y∧k st' d=some r:=by
 unfold A4 at hk
 split at hk
 case h_2=>cases hk
 rename_i kt e hu
 split at hk
 case h_2=>cases hk
 rename_i c hc
 obtain⟨d,_,hf,hk1⟩:=DE hk
 refine⟨_,_,_,_,_,run_makeMap t w,h.new (hv:=.map (some w.heap.size)) (o:=.mp false t (c+1000000000) []) hf (cf.alloc (fun _=>False) w (.map #[] 0)) (fun b hb=>by simp only[bq,cC] at hb;omega)
  (fun X' hX=>⟨by omega,w.heap.size,#[],0,rfl,OL w _,⟨rfl,fun i t e h1 _=>by simp at h1,fun i k v e h1 _=>by simp at h1,rfl,fun i e h1=>by simp at h1⟩,fun hz=>by cases hz⟩) (HQ _ _) (by simp),
  .one (c:=.row (st.np+d)) (by simp[ia,aw]) rfl,hk1⟩
def da(w:World)(g:Nat)(es:Array MapEntry)(clock:Nat):World:={ w with heap:=w.heap.setIfInBounds g (.map es clock) }
theorem PE(w:World)(g:Nat)(es:Array MapEntry)(clock:Nat):cf (fun b=>b=g) w (da w g es clock):=
 ⟨rfl,rfl,rfl,by simp[da],fun b _ hb=>by simp[da,OS hb]⟩
theorem Rel.da{key g n clock clock':Nat}{t:TypeId}{l l':List T}{es es':Array MapEntry}(h:Rel w0 F Xc ρ0 ρ st a w)(ho:st.ae[key]?=some (.mp false t n l))(hh:ρ key=some (.map (some g)))(hn:1000000000≤n)
 (hg:w.heap[g]?=some (.map es clock)) (hent:ft w (XB st.ae ρ Xc) n l' es' clock'):Rel w0 F Xc ρ0 ρ { st with ae:=st.ae.set key (.mp false t n l') } a (da w g es' clock'):=by
 have hlt:key<st.ae.length:=(dA.1 ho).1
 have hHas:Has st.ae ρ key g:=⟨_,_,ho,rfl,hh,.inl rfl⟩
 refine h.change _ ρ (·=key) (PE w g es' clock') (fun jj hj=>⟨by rw[fC (fun e=>hj e.symm)],rfl⟩) (.refl _) (fun b hb=>⟨key,rfl,hb▸hHas⟩)
  (fun jj b hj hb=>?_) (fun jj j' b hj hj' _ _=>hj.trans hj'.symm) (fun hX jj o' hj ho'=>?_) (fun _ _=>rfl)
 ·subst hj
  obtain⟨o',v,_,_,q3,q4⟩:=hb
  rw[hh] at q3
  cases q3
  have q5:=q4.one rfl
  cases q5
  exact .inl ⟨_,rfl,hHas⟩
 ·subst hj
  rw[iI hlt] at ho'
  cases ho'
  refine⟨_,hh,hn,g,es',clock',rfl,?_,hent.step (PE w g es' clock') (fun b hb=>.inl ⟨_,hb▸hHas⟩) hX,fun hz=>by cases hz⟩
  have hgl:g<w.heap.size:=(AQ.1 hg).1
  simp[Eng.da,hgl]
theorem Sr{X0:Nat→Prop}{v:D}{y:Value}{cs cs':List C}{ts:List T}{tv:T}(hv:ay w X0 ρ v y)(hcs:FE v=some cs)(hlen:cs'.length=cs.length)(hr:dk w X ts y.cells.toList)(hna:∀t∈ts,∀l,t≠.agg l)(hm:Xg v ts=some tv):Rd w X tv y∧WP tv y:=by
 unfold Xg at hm
 split at hm
 ·rename_i cl
  cases hm
  obtain⟨vs,rfl,hl⟩:=hv
  refine⟨.agg _ vs (by have:=hr.1;simpa[Value.cells] using this) (fun i z hi=>?_) fun i t z e1 e2=>?_,.inl ⟨_,rfl⟩⟩
  ·have hlt:i<ts.length:=by have:=hr.1;simp only[Value.cells,mT] at this;rw[←this];exact(AQ.1 hi).1
   exact(hr.2 i _ z (dG hlt) (by simpa[Value.cells] using hi)).2
  ·exact(hr.2 i t z e1 (by simpa[Value.cells] using e2)).1
 ·rename_i c t
  cases hm
  rcases hv with hv | ⟨_,h1⟩
  ·subst hv;simp[FE] at hcs
  ·rw[SG h1] at hr
   have:=hr.2 0 _ y rfl rfl
   exact⟨this.1,.inr h1⟩
 ·cases hm
theorem Ow{n c clock:Nat}{l:List T}{es:Array MapEntry}{kk tv:T}{kv y:Value}(he:ft w X n l es clock)(hn:n=c+1000000000)(hkk:DB c kk=some kv)(hr:Rd w X tv y)(h1:WP tv y):
 (lF kk l=none→ft w X n (yW kk tv l) (es.push ⟨kv,y,clock⟩) (clock+1)) ∧
 ∀i,lF kk l=some i→ft w X n (yW kk tv l) (es.modify i fun e=>{ e with key:=kv,val:=y }) clock:=by
 have hc:n-1000000000=c:=by omega
 obtain⟨q1,q2,q3,q4,q5⟩:=he
 refine⟨fun hm=>?_,fun i hm=>?_⟩
 ·have hp:yW kk tv l=l++[.agg [kk,tv]]:=by unfold yW;rw[hm]
  rw[hp]
  refine⟨by simp[q1],fun i t e e1 e2=>?_,fun i k v e e1 e2=>?_,by simp[q4],fun i e e2=>?_⟩
  ·rw[sC] at e1
   rw[Z1] at e2
   split at e1
   ·rename_i hlt
    rw[aA (by omega)] at e2
    exact q2 i t e e1 e2
   ·rename_i hge
    have hi:i=l.length:=by
     have:=(dA.1 e1).1
     simp at this;omega
    subst hi
    rw[aC q1.symm] at e2
    cases e2
    simp at e1
    subst e1
    exact⟨kk,tv,rfl,by rw[hc];exact hkk,h1⟩
  ·rw[sC] at e1
   rw[Z1] at e2
   split at e1
   ·rename_i hlt
    rw[aA (by omega)] at e2
    exact q3 i k v e e1 e2
   ·have hi:i=l.length:=by
     have:=(dA.1 e1).1
     simp at this;omega
    subst hi
    rw[aC q1.symm] at e2
    cases e2
    simp at e1
    obtain⟨rfl,rfl⟩:=e1
    exact hr
  ·rw[Z1] at e2
   split at e2
   ·rename_i hi
    cases e2
    show clock=i
    omega
   ·exact q5 i e e2
 ·obtain⟨t,g1,_⟩:=JO hm
  have hil:i<l.length:=(dA.1 g1).1
  have hp:yW kk tv l=l.set i (.agg [kk,tv]):=by unfold yW;rw[hm]
  rw[hp]
  refine⟨by simp[q1],fun j t e e1 e2=>?_,fun j k v e e1 e2=>?_,by simp[q4],fun j e e2=>?_⟩
  ·rw[qU] at e1
   rw[TU] at e2
   split at e1
   ·rename_i hij
    subst hij
    rw[aC rfl] at e2
    cases e1
    obtain⟨e0,g2,rfl⟩:=JB.1 e2
    exact⟨kk,tv,rfl,by rw[hc];exact hkk,h1⟩
   ·rename_i hij
    rw[aA hij] at e2
    exact q2 j t e e1 e2
  ·rw[qU] at e1
   rw[TU] at e2
   split at e1
   ·rename_i hij
    subst hij
    rw[aC rfl] at e2
    cases e1
    obtain⟨e0,g2,rfl⟩:=JB.1 e2
    exact hr
   ·rename_i hij
    rw[aA hij] at e2
    exact q3 j k v e e1 e2
  ·rw[TU] at e2
   split at e2
   ·rename_i hij
    subst hij
    obtain⟨e0,g2,rfl⟩:=JB.1 e2
    exact q5 _ e0 g2
   ·exact q5 j e e2
end
section
variable {R:Type} {P:Program} {w0 w w':World} {F Xc X:Nat→Prop} {ρ0:cn} {ρ:nT} {st:St} {a:Act} {r:R}
theorem RM{t kt e:TypeId}{n c g clock:Nat}{l:List T}{es:Array MapEntry}{kk:T}{kv:Value}(hu:P.underlying t=some (.map kt e))(hc:M1 P kt=some c)(hkk:DB c kk=some kv)(hn:n=c+1000000000)
 (hg:w.heap[g]?=some (.map es clock)) (hl:es.size=l.length) (hs:∀(i:Nat) t e,l[i]?=some t→es[i]?=some e→∃k v,t=.agg [k,v]∧DB (n-1000000000) k=some e.key∧WP v e.val) (y:Value):
 (lF kk l=none∧(Instr.mapUpdate t (.map (some g)) kv y).run P w=.ok () (da w g (es.push ⟨kv,y,clock⟩) (clock+1))) ∨
 ∃i,lF kk l=some i∧(Instr.mapUpdate t (.map (some g)) kv y).run P w=.ok () (da w g (es.modify i fun e=>{ e with key:=kv,val:=y }) clock):=by
 have hch:=fun em=>Gd hc hkk em w
 rcases Jr hc hkk hn hl hs w with⟨h1,h2⟩ | ⟨j,kj,vj,ej,h1,h2,h3,h4,h5,h6⟩
 ·refine .inl ⟨h1,?_⟩
  unfold Instr.mapUpdate
  simp only[bO,qT hu,dM,ZT hg,hch,h2,MapKept.run_setObj_map _ hg]
  rfl
 ·refine .inr ⟨j,h1,?_⟩
  have hst:=Ge (P:=P) hkk w
  unfold Instr.mapUpdate
  simp only[bO,qT hu,dM,ZT hg,hch,h6,h3,fH,Option.getD_some,h4,hst,MapKept.run_setObj_map _ hg]
  rfl
theorem PF{t:TypeId}{m key v:D}{vm vk vv:Value}{k:St→Option R}(h:Rel w0 F Xc ρ0 ρ st a w)(hm:ay w (XB st.ae ρ Xc) ρ m vm)(hkey:ay w (XB st.ae ρ Xc) ρ key vk)(hv:ay w (XB st.ae ρ Xc) ρ v vv)
 (hk:zY P st t m key v k=some r):∃st' w',(Instr.mapUpdate t vm vk vv).run P w=.ok () w'∧Rel w0 F Xc ρ0 ρ st' a w'∧k st'=some r:=by
 unfold zY at hk
 split at hk
 case h_2=>cases hk
 rename_i kt e hu
 split at hk
 case h_2=>cases hk
 rename_i c hc
 obtain⟨kk,hkk,hk1⟩:=Ov hkey hk
 clear hk
 split at hk1
 case h_2=>cases hk1
 rename_i mk cs hcs
 split at hk1
 case h_2=>cases hk1
 rename_i objs' cs' hfq
 obtain⟨hR,hl⟩:=US h (CQ hv hcs) hfq
 split at hk1
 case h_2=>cases hk1
 rename_i t' n l hob
 split at hk1
 case isFalse=>cases hk1
 rename_i hn
 obtain⟨ts,hk2,t1,t2,t3⟩:=GZ hl hk1
 split at hk2
 case h_2=>cases hk2
 rename_i tv htv
 have hlen:cs'.length=cs.length:=by
  have q1:=hl.1
  have q2:=(CQ hv hcs).1
  omega
 obtain⟨r1,r2⟩:=Sr hv hcs hlen t2 t3 htv
 rcases hm with hm | ⟨hm,_⟩
 ·cases hm
 have cm:ρ mk=some vm:=hm
 obtain⟨vm',e1,h0,g,es,clock,rfl,hg,he,_⟩:=hR.ae mk _ hob
 rw[cm] at e1
 cases e1
 obtain⟨p1,p2⟩:=Ow (kk:=kk) (tv:=tv) (kv:=vk) (y:=vv) he hn hkk r1 r2
 rcases RM hu hc hkk hn hg he.1 he.2.1 vv with⟨q1,q2⟩ | ⟨i,q1,q2⟩
 ·exact⟨_,_,q2,hR.da hob cm h0 hg (p1 q1),hk2⟩
 ·exact⟨_,_,q2,hR.da hob cm h0 hg (p2 i q1),hk2⟩
theorem Aq{t:TypeId}{m key:D}{vm vk:Value}{k:St→D→Option R}(h:Rel w0 F Xc ρ0 ρ st a w)(hm:ay w (XB st.ae ρ Xc) ρ m vm)(hkey:ay w (XB st.ae ρ Xc) ρ key vk)
 (hk:G4 P st t m key k=some r):∃y st' w' d,(Instr.mapEntry t vm vk).run P w=.ok y w'∧Rel w0 F Xc ρ0 ρ st' a w'∧ay w' (XB st'.ae ρ Xc) ρ d y∧k st' d=some r:=by
 unfold G4 at hk
 cases hk
theorem UW{t:TypeId}{m stamp v:D}{vm vs vv:Value}{k:St→Option R}(h:Rel w0 F Xc ρ0 ρ st a w)(hm:ay w (XB st.ae ρ Xc) ρ m vm)(hst:ay w (XB st.ae ρ Xc) ρ stamp vs)(hv:ay w (XB st.ae ρ Xc) ρ v vv)
 (hk:AK P st t m stamp v k=some r):∃st' w',(Instr.entryStore t vm vs vv).run P w=.ok () w'∧Rel w0 F Xc ρ0 ρ st' a w'∧k st'=some r:=by
 unfold AK at hk
 cases hk
end
section
variable {R:Type} {P:Program} {w0 w w':World} {F Xc X:Nat→Prop} {ρ0:cn} {ρ:nT} {st:St} {a:Act} {r:R}
def MY(w:World)(X:Nat→Prop)(ρ:nT):Option D→Option Value→Prop
 | some d,some v=>ay w X ρ d v
 | none,none=>True
 | _,_=>False
theorem xG{od:Option D}{ov:Option Value}{dflt:Int}{k:Int→Option R}(h:MY w X ρ od ov)(hk:DG od dflt k=some r):
 ∃n,k n=some r∧((ov=none∧n=dflt)∨∃kd,ov=some (.int kd n)):=by
 cases od with
 | none=>
  cases ov with
  | none=>exact⟨dflt,hk,.inl ⟨rfl,rfl⟩⟩
  | some v=>exact h.elim
 | some d=>
  cases ov with
  | none=>exact h.elim
  | some v=>
   obtain⟨kd,n,rfl,hk1⟩:=sV h hk
   exact⟨n,hk1,.inr ⟨kd,rfl⟩⟩
theorem FH{isS:Bool}{len cap:Nat}{lo hi:Option Value}{l h:Int}(hl:(lo=none∧l=0)∨∃kd,lo=some (.int kd l))(hh:(hi=none∧h=len)∨∃kd,hi=some (.int kd h))
 (h0:0≤h) (hlen:h≤len) (hcap:len≤cap) (l0:0≤l) (hlh:l≤h):
 (Instr.sliceBounds isS len cap lo hi none).run P w=.ok (l.toNat,h.toNat,cap) w:=by
 have hb:∀(kd:IntKind) (i:Int) (n:Nat) (c:BoundsCode),0≤i→i≤n→(Instr.sliceBound (.int kd i) n c).run P w=.ok i.toNat w:=by
  intro kd i n c h1 h2
  unfold Instr.sliceBound
  simp only[asIntOf,bO,iL,dM]
  rw[IH,aC ⟨h1,h2⟩]
  rfl
 unfold Instr.sliceBounds
 rcases hh with⟨rfl,rfl⟩ | ⟨kd,rfl⟩ <;> rcases hl with⟨rfl,rfl⟩ | ⟨kd',rfl⟩
 ·simp only[bO,iL,dM];rfl
 ·simp only[bO,iL,dM]
  rw[hb _ _ _ _ l0 (by omega)]
  simp only[dM,nR]
 ·simp only[bO,iL,dM]
  rw[hb _ _ _ _ h0 (by omega)]
  simp only[dM]
  rfl
 ·simp only[bO,iL,dM]
  rw[hb _ _ _ _ h0 (by omega)]
  simp only[dM]
  rw[hb _ _ _ _ l0 (by omega)]
  simp only[dM]
theorem NE{len cap:Nat}{lo:Option Value}{l h m:Int}{kh km:IntKind}(hl:(lo=none∧l=0)∨∃kd,lo=some (.int kd l))(m0:0≤m)(hm:m≤cap)(h0:0≤h)(hhm:h≤m)(l0:0≤l)(hlh:l≤h):
 (Instr.sliceBounds true len cap lo (some (.int kh h)) (some (.int km m))).run P w=.ok (l.toNat,h.toNat,m.toNat) w:=by
 have hb:∀(kd:IntKind) (i:Int) (n:Nat) (c:BoundsCode),0≤i→i≤n→(Instr.sliceBound (.int kd i) n c).run P w=.ok i.toNat w:=by
  intro kd i n c h1 h2
  unfold Instr.sliceBound
  simp only[asIntOf,bO,iL,dM]
  rw[IH,aC ⟨h1,h2⟩]
  rfl
 unfold Instr.sliceBounds
 rcases hl with⟨rfl,rfl⟩ | ⟨kd',rfl⟩
 ·simp only[bO,iL,dM]
  rw[hb _ _ _ _ m0 hm]
  simp only[dM]
  rw[hb _ _ _ _ h0 (by omega)]
  simp only[dM]
  rfl
 ·simp only[bO,iL,dM]
  rw[hb _ _ _ _ m0 hm]
  simp only[dM]
  rw[hb _ _ _ _ h0 (by omega)]
  simp only[dM]
  rw[hb _ _ _ _ l0 (by omega)]
  simp only[dM]
theorem UT{n:Nat}{c:C}{v:Value}{q:Int×(Nat×Nat→Bool→C)}(hR:Rel w0 F Xc ρ0 ρ st a w)(hc:ch w (XB st.ae ρ Xc) ρ c v)(hq:Ak st n c=some q):
 ∃(ad:Option Addr) (L cap:Nat),v=.slice ad L cap∧L≤cap∧q.1=L∧∀(lo hi m:Nat) (tg:Bool),lo≤hi→hi≤m→hi≤L→m≤cap→(tg=true→hi=m) →
  ch w (XB st.ae ρ Xc) ρ (q.2 (lo,hi-lo) tg) (.slice (if m=lo then ad else ad.map (·.add (lo*n))) (hi-lo) (m-lo)):=by
 unfold Ak at hq
 split at hq
 ·rename_i y
  cases hes:y.kf n with
  | none=>simp[hes] at hq
  | some es=>
   simp only[hes,fH,cC] at hq
   subst hq
   rcases hc with hc | ⟨hc,_⟩
   ·cases hc
   obtain⟨hnm,hes⟩:=T.fj hes
   have hy:Rd w (XB st.ae ρ Xc) (.sl n es) v:=by
    unfold T.il at hes
    split at hes
    ·rw[aC hnm] at hes;cases hes;have:=Rd.cq hc;subst this;exact .nil n hnm
    ·split at hes
     ·rename_i hk;cases hes;subst hk;exact hc
     ·cases hes
    ·cases hes
   cases hy with
   | mp _ _ _ _ _ hbig=>omega
   | nil=>
    refine⟨none,0,0,rfl,gU _,by unfold aH;rfl,fun lo hi m tg h1 h2 h3 h4 _=>?_⟩
    have e1:hi=0:=by omega
    have e2:lo=0:=by omega
    have e3:m=0:=by omega
    subst e1;subst e2;subst e3
    refine .inr ⟨?_,rfl⟩
    show Rd _ _ (.sl n (oC [] 0 0)) (.slice none 0 0)
    unfold oC
    exact .nil n hnm
   | sl _ _ ad c ys _ hc' hm hu hyl hcell hr=>
    refine⟨some ad,_,c,rfl,hc',by unfold aH;rfl,fun lo hi m tg h1 h2 h3 h4 _=>.inr ⟨?_,rfl⟩⟩
    show Rd _ _ (.sl n (oC es lo (hi-lo))) _
    unfold oC
    have hlen:((es.drop lo).take (hi-lo)).length=hi-lo:=by rw[mU,MO];omega
    have hfl:flat ((es.drop lo).take (hi-lo))=((flat es).drop (lo*n)).take ((hi-lo)*n):=by rw[(hu.drop lo).dd,hu.cr]
    by_cases hml:m=lo
    ·rw[aC hml]
     have hz:hi-lo=0:=by omega
     rw[hz,List.take_zero]
     exact .sl n [] ad _ [] hnm (HU _) (by omega) (.nil _) rfl (fun i y hi=>by simp at hi) (fun i t y hi _=>by simp[flat] at hi)
    ·rw[aA hml]
     have hul:=hu.length
     have key:Rd w (XB st.ae ρ Xc) (.sl n ((es.drop lo).take (hi-lo))) (.slice (some (ad.add (lo*n))) ((es.drop lo).take (hi-lo)).length (m-lo)):=by
      refine .sl n _ _ _ ((ys.drop (lo*n)).take ((hi-lo)*n)) hnm (by rw[hlen];omega) (by omega) ((hu.drop lo).take _) (by rw[hfl];simp[hyl]) (fun i y hi=>?_) (fun i t y h1 h2=>?_)
      ·rw[pW] at hi
       split at hi
       ·rw[tV] at hi
        rw[sU,uY]
        exact hcell _ y hi
       ·cases hi
      ·rw[hfl] at h1
       rw[pW] at h1 h2
       split at h1
       ·rename_i hlt
        rw[aC hlt] at h2
        rw[tV] at h1 h2
        exact hr _ t y h1 h2
       ·cases h1
     rw[hlen] at key
     exact key
 ·rename_i key
  split at hq
  ·rename_i fz e n' es hob
   split at hq
   ·rename_i hn
    subst hn
    cases hq
    rcases hc with hc | ⟨hc,_⟩
    ·cases hc
    obtain⟨hv,e1,e2⟩:=hR.ae key _ hob
    have hcc:ρ key=some v:=hc
    rw[hcc] at e1
    cases e1
    obtain⟨ad,cap,hv,hlc,hnil⟩:∃ad cap,v=.slice ad es.length cap∧es.length≤cap∧(ad=none→cap=0):=by
     rcases pI e2 with⟨rfl,rfl⟩ | ⟨a0,cap,rfl,h1,_⟩
     ·exact⟨none,0,rfl,gU _,fun _=>rfl⟩
     ·exact⟨some a0,cap,rfl,h1,fun h=>by cases h⟩
    subst hv
    refine⟨ad,es.length,cap,rfl,hlc,by unfold aH;rfl,fun lo hi m tg h1 h2 h3 h4 h5=>.inr ⟨⟨_,hcc,ad,es.length,cap,m-lo,_,rfl,rfl,by omega,by omega,by omega,fun h6=>by rw[aA (by omega)],fun h6=>by have:=h5 h6;omega⟩,rfl⟩⟩
   ·cases hq
  ·cases hq
 ·rename_i key m' b len tg'
  split at hq
  ·rename_i hn
   subst hn
   cases hq
   rcases hc with hc | ⟨⟨hv,q1,q2⟩,_⟩
   ·cases hc
   obtain⟨ao,L,c,cc,ao',rfl,rfl,g1,g2,g3,g4,g5⟩:=q2
   refine⟨ao',len,cc,rfl,g2,by unfold UM;rfl,fun lo hi m tg h1 h2 h3 h4 h5=>.inr ⟨?_,rfl⟩⟩
   show ia _ _ _ (.cut key m' (Ix b lo) (hi-lo) tg) _
   unfold Ix
   refine⟨_,q1,ao,L,c,m-lo,_,rfl,rfl,by omega,by omega,by omega,fun h6=>?_,fun h6=>by have:=h5 h6;omega⟩
   rw[aA (by omega),g4 (by omega),Option.map_map]
   cases ao with
   | none=>rfl
   | some a0=>simp only[fH,Function.comp,sU,tU]
  ·cases hq
 ·cases hq
theorem Fz{t:TypeId}{x:D}{v:Value}{lo hi mx:Option D}{vlo vhi vmx:Option Value}{k:D→Option R}(hR:Rel w0 F Xc ρ0 ρ st a w)(h:ay w (XB st.ae ρ Xc) ρ x v)(hlo:MY w (XB st.ae ρ Xc) ρ lo vlo)(hhi:MY w (XB st.ae ρ Xc) ρ hi vhi)
 (hmx:MY w (XB st.ae ρ Xc) ρ mx vmx) (hk:CB P st t x lo hi mx k=some r):∃y d,(Instr.sliceAt t v vlo vhi vmx).run P w=.ok y w∧ay w (XB st.ae ρ Xc) ρ d y∧k d=some r:=by
 unfold CB at hk
 split at hk
 ·rename_i hu
  split at hk
  case h_2=>cases hk
  have:vmx=none:=by cases vmx with | none=>rfl | some v=>exact hmx.elim
  subst this
  obtain⟨s,rfl,hk1⟩:=DC h hk
  obtain⟨h',hk2,eh⟩:=xG hhi hk1
  obtain⟨l',hk3,el⟩:=xG hlo hk2
  obtain⟨s',hs',hk4⟩:=bK hk3
  clear hk hk1 hk2 hk3
  unfold Va at hs'
  split at hs'
  ·rename_i hc
   obtain⟨c1,c2,c3,c4⟩:=hc
   cases hs'
   refine⟨_,_,?_,.str _,hk4⟩
   unfold Instr.sliceAt
   simp only[bO,qT hu,dM]
   unfold Instr.slice
   simp only[bO,qT hu,dM,Option.isSome_none,pB,iK,iL]
   rw[FH el (by unfold Of at eh;exact eh) c1 c2 (gU _) c3 c4]
   rfl
  ·cases hs'
 ·rename_i e hu
  split at hk
  case h_2=>cases hk
  rename_i n hn
  obtain⟨c,rfl,hc,hk1⟩:=vN h hk
  clear hk
  have key2:∀{L cap:Nat} {ad:Option Addr} {h' l':Int},vmx=none→((vhi=none∧h'=L)∨∃kd,vhi=some (.int kd h'))→((vlo=none∧l'=0)∨∃kd,vlo=some (.int kd l'))→0≤l'→l'≤h'→h'≤L→L≤cap →
   (Instr.sliceAt t (.slice ad L cap) vlo vhi vmx).run P w=.ok (.slice (if cap=l'.toNat then ad else ad.map (·.add (l'.toNat*n))) (h'.toNat-l'.toNat) (cap-l'.toNat)) w:=by
   intro L cap ad h' l' hm eh el c1 c2 c3 hcap
   subst hm
   unfold Instr.sliceAt
   simp only[bO,qT hu,dM]
   unfold Instr.slice
   simp only[bO,qT hu,dM]
   rw[FH el eh (by omega) c3 hcap c1 c2]
   simp only[dM,iT hn,bO,iL]
  split at hk1
  ·rename_i y
   have:vmx=none:=by cases vmx with | none=>rfl | some v=>exact hmx.elim
   obtain⟨es,hes,hk1'⟩:=bK hk1
   obtain⟨h',hk2,eh⟩:=xG hhi hk1'
   obtain⟨l',hk3,el⟩:=xG hlo hk2
   obtain⟨es',hes',hk4⟩:=bK hk3
   clear hk1 hk1' hk2 hk3
   obtain⟨ad,L,cap,rfl,g1,g2,g3⟩:=UT (n:=n) (q:=(aH es,fun p _=>.t (.sl n (oC es p.1 p.2)))) hR hc (by simp only[Ak,hes,fH])
   dsimp only at g2 g3
   unfold Vb at hes'
   split at hes'
   case isFalse=>cases hes'
   rename_i hcc
   obtain⟨c1,c2,c3,c4⟩:=hcc
   cases hes'
   have hLe:(es.length:Int)=L:=by unfold aH at g2;exact g2
   refine⟨_,_,key2 this (by rw[g2] at eh;exact eh) el c3 c4 (by omega) g1,?_,hk4⟩
   have:=g3 l'.toNat h'.toNat cap false (by omega) (by omega) (by omega) (gU _) (fun h=>by cases h)
   have e3:oC es l'.toNat (h'.toNat-l'.toNat)=(es.take h'.toNat).drop l'.toNat:=by unfold oC;rw[ON]
   rw[e3] at this
   exact this
  ·rename_i hnt
   have:vmx=none:=by cases vmx with | none=>rfl | some v=>exact hmx.elim
   obtain⟨q,hq,hk1'⟩:=bK hk1
   obtain⟨h',hk2,eh⟩:=xG hhi hk1'
   obtain⟨l',hk3,el⟩:=xG hlo hk2
   obtain⟨p,hp,hk4⟩:=bK hk3
   clear hk1 hk1' hk2 hk3
   obtain⟨ad,L,cap,rfl,g1,g2,g3⟩:=UT hR hc hq
   rw[g2] at hp eh
   obtain⟨c1,c2,c3,rfl⟩:=Fk hp
   refine⟨_,_,key2 this eh el c1 c2 c3 g1,?_,hk4⟩
   have:=g3 l'.toNat h'.toNat cap false (by omega) (by omega) (by omega) (gU _) (fun h=>by cases h)
   have e3:(h'-l').toNat=h'.toNat-l'.toNat:=by omega
   rw[e3]
   exact this
  ·rename_i m
   split at hk1
   case h_2=>cases hk1
   rename_i hd
   cases vmx with
   | none=>exact hmx.elim
   | some vm=>
   cases vhi with
   | none=>exact hhi.elim
   | some vh=>
   obtain⟨q,hq,hk2⟩:=bK hk1
   obtain⟨km,m',rfl,hk3⟩:=sV hmx hk2
   obtain⟨kh,h',rfl,hk4⟩:=sV hhi hk3
   obtain⟨l',hk5,el⟩:=xG hlo hk4
   obtain⟨p,hp,hk6⟩:=bK hk5
   clear hk1 hk2 hk3 hk4 hk5
   obtain⟨ad,L,cap,rfl,g1,g2,g3⟩:=UT hR hc hq
   rw[g2] at hp
   obtain⟨c1,c2,c3,c4,rfl⟩:=Fl hp
   refine⟨.slice (if m'.toNat=l'.toNat then ad else ad.map (·.add (l'.toNat*n))) (h'.toNat-l'.toNat) (m'.toNat-l'.toNat),_,?_,?_,hk6⟩
   ·unfold Instr.sliceAt
    simp only[bO,qT hu,dM]
    unfold Instr.slice
    simp only[bO,qT hu,dM]
    rw[NE el (by omega) (by omega) (by omega) (by omega) c1 c2]
    simp only[dM,iT hn,bO,iL]
   ·have:=g3 l'.toNat h'.toNat m'.toNat true (by omega) (by omega) (by omega) (by omega) (fun _=>by omega)
    have e3:(h'-l').toNat=h'.toNat-l'.toNat:=by omega
    rw[e3]
    exact this
 ·cases hk
theorem Oo{t ty:TypeId}{x:D}{v:Value}{k:D→Option R}(hR:Rel w0 F Xc ρ0 ρ st a w)(h:ay w (XB st.ae ρ Xc) ρ x v)(hk:E4 P st t x k=some r):
 ∃y d,(Builtin.len_ #[t] ty #[v]).run P w=.ok y w∧ay w (XB st.ae ρ Xc) ρ d y∧k d=some r:=by
 have hlen:∀{d:TypeDesc} {y:Value} {q:Value},P.underlying t=some d→(match d,y with
  | .string,.string s=>some (goInt s.size)
  | .array n _,_=>some (goInt n)
  | .slice _,.slice _ n _=>some (goInt n)
  | _,_=>none)=some q→(Builtin.len_ #[t] ty #[y]).run P w=.ok q w:=by
  intro d y q hu he
  unfold Builtin.len_
  simp only[KZ,AT,bO,qT hu,dM]
  split at he <;> first
   | (cases he;rfl)
   | (cases he;done)
 unfold E4 at hk
 split at hk
 ·rename_i hu
  obtain⟨s,rfl,hk1⟩:=DC h hk
  exact⟨_,_,hlen hu rfl,.int .i64 _,by unfold Of at hk1;exact hk1⟩
 ·rename_i e hu
  obtain⟨c,rfl,hc,hk1⟩:=vN h hk
  clear hk
  split at hk1
  ·rename_i y
   obtain⟨n,hn,hk2⟩:=bK hk1
   rcases hc with hc | ⟨hc,_⟩
   ·cases hc
   ·unfold T.mo at hn
    split at hn
    ·cases hn
     have:=Rd.cq hc
     subst this
     exact⟨_,_,hlen hu rfl,.int .i64 _,hk2⟩
    ·split at hn
     case isFalse=>cases hn
     rename_i hnm
     cases hn
     unfold aH at hk2
     cases hc with
     | mp _ _ _ _ _ hbig=>omega
     | nil=>exact⟨_,_,hlen hu rfl,.int .i64 _,hk2⟩
     | sl=>exact⟨_,_,hlen hu rfl,.int .i64 _,hk2⟩
    ·cases hn
  ·rename_i key
   split at hk1
   ·rename_i fz e' n' es hob
    rcases hc with hc | ⟨hc,_⟩
    ·cases hc
    ·obtain⟨hv,e1,e2⟩:=hR.ae key _ hob
     simp only[ia] at hc
     rw[hc] at e1
     cases e1
     unfold aH at hk1
     rcases pI e2 with⟨rfl,rfl⟩ | ⟨a0,cap,rfl,h1,h2,xs,hr,hcell⟩
     ·exact⟨_,_,hlen hu rfl,.int .i64 _,hk1⟩
     ·exact⟨_,_,hlen hu rfl,.int .i64 _,hk1⟩
   ·cases hk1
  ·rename_i key n lo len tg
   rcases hc with hc | ⟨⟨hv,q1,q2⟩,_⟩
   ·cases hc
   ·obtain⟨ao,L,c,cc,ao',rfl,rfl,g1,g2,g3,g4,_⟩:=q2
    unfold UM at hk1
    exact⟨_,_,hlen hu rfl,.int .i64 _,hk1⟩
  ·rename_i key
   split at hk1
   case h_2=>cases hk1
   rename_i K hK
   split at hk1
   case h_2=>cases hk1
   rename_i l0 hob
   rcases hc with hc | ⟨⟨vs,q1,q2⟩,_⟩
   ·cases hc
   ·obtain⟨hole,e',e2,n',l,vs',f1,f2,f3,f4⟩:=DD hR hK q1
    rw[hob] at f1
    cases f1
    unfold aH at hk1
    rcases f4.head (f3.trans q2) with⟨rfl,rfl⟩ | ⟨a0,cap,rfl⟩
    ·exact⟨_,_,hlen hu rfl,.int .i64 _,hk1⟩
    ·exact⟨_,_,hlen hu rfl,.int .i64 _,hk1⟩
  ·cases hk1
 ·rename_i n e hu
  exact⟨_,_,hlen hu rfl,.int .i64 _,hk⟩
 ·rename_i kt e hu
  have hmap:∀{g:Nat} {es:Array MapEntry} {clock:Nat},w.heap[g]?=some (.map es clock)→(Builtin.len_ #[t] ty #[.map (some g)]).run P w=.ok (goInt es.size) w:=by
   intro g es clock hg
   unfold Builtin.len_
   simp only[KZ,AT,bO,qT hu,dM,ZT hg]
   rfl
  obtain⟨c,rfl,hc,hk1⟩:=vN h hk
  clear hk
  split at hk1
  ·rename_i n l
   split at hk1
   case isFalse=>cases hk1
   rename_i hnm
   rcases hc with hc | ⟨hc,_⟩
   ·cases hc
   ·unfold aH at hk1
    cases hc with
    | mp _ _ g es clock _ hg _ hl=>exact⟨_,_,hmap hg,by rw[hl];exact .int .i64 _,hk1⟩
    | nil=>omega
    | sl=>omega
  ·rename_i key
   split at hk1
   ·rename_i fz e' n' es hob
    rcases hc with hc | ⟨hc,_⟩
    ·cases hc
    ·obtain⟨hv,e1,e2⟩:=hR.ae key _ hob
     simp only[ia] at hc
     rw[hc] at e1
     cases e1
     unfold aH at hk1
     obtain⟨_,g,es',clock,rfl,hg,he,_⟩:=e2
     exact⟨_,_,hmap hg,by rw[he.1];exact .int .i64 _,hk1⟩
   ·cases hk1
  ·cases hk1
 ·cases hk
theorem LN:∀{l:List D} {vs:List Value} {caps:List (Nat×Nat)},l.length=vs.length→(∀(i:Nat) d v,l[i]?=some d→vs[i]?=some v→ay w X ρ d v)→LM l=some caps →
 vs.length=caps.length∧∀(i:Nat) p v,caps[i]?=some p→vs[i]?=some v→∃h,ρ p.1=some h∧O0 h p.2 v
 | [],vs,caps,hl,_,hc=>by
  simp only[LM,cC] at hc
  subst hc
  exact⟨hl.symm,fun i p v h1 _=>by simp at h1⟩
 | d::l,vs,caps,hl,hr,hc=>by
  cases vs with
  | nil=>simp at hl
  | cons v vs=>
   unfold LM at hc
   split at hc
   ·rename_i heq;cases heq
   ·rename_i k j l' heq
    cases heq
    cases hcl:LM l with
    | none=>simp[hcl] at hc
    | some caps'=>
     simp only[hcl,fH,cC] at hc
     subst hc
     obtain⟨e1,e2⟩:=LN (l:=l) (vs:=vs) (by simpa using hl) (fun i d v h1 h2=>hr (i+1) d v (by simpa using h1) (by simpa using h2)) hcl
     refine⟨by simp[e1],fun i p v' h1 h2=>?_⟩
     cases i with
     | zero=>
      simp at h1 h2
      subst h1;subst h2
      rcases hr 0 _ _ rfl rfl with hh | ⟨hh,_⟩
      ·cases hh
      ·exact hh
     | succ i=>exact e2 i p v' (by simpa using h1) (by simpa using h2)
   ·cases hc
theorem UU{fn:Fn}{first captured:List D}{vf vc:Array Value}{k:D→Option R}(hf:first.length=vf.toList.length)(hl:captured.length=vc.toList.length)
 (hr:∀(i:Nat) d v,captured[i]?=some d→vc.toList[i]?=some v→ay w X ρ d v) (hk:xF fn first captured k=some r):
 ∃y d,(Instr.makeFunc fn vf vc).run P w=.ok y w∧ay w X ρ d y∧k d=some r:=by
 unfold xF at hk
 split at hk
 ·rename_i f
  have hvf:vf=#[]:=by
   have:vf.toList=[]:=vJ hf.symm
   exact ZU.1 this
  subst hvf
  split at hk
  ·rename_i hc
   obtain⟨e1,_⟩:=LN hl hr hc
   have hvc:vc=#[]:=ZU.1 (vJ e1)
   subst hvc
   exact⟨_,_,rfl,.val rfl,hk⟩
  ·rename_i caps _ hc
   obtain⟨e1,e2⟩:=LN hl hr hc
   refine⟨_,_,rfl,.one (c:=.fn f caps) ⟨vc.toList,by simp,e1,e2⟩ rfl,hk⟩
  ·cases hk
 ·cases hk
end
section
variable {R:Type} {P:Program} {w0 w w':World} {F Xc X:Nat→Prop} {ρ0:cn} {ρ:nT} {st:St} {a:Act} {r:R}
theorem LO{dst:Option Nat}{e:TypeId}{n:Nat}{l:List T}{cap:Nat}{jE:Array Value}{k:St→Nat→Option R}(h:Rel w0 F Xc ρ0 ρ st a w)(hn:0<n∧n<1000000000)(hu:dr n l)
 (hc:l.length≤cap) (hm:cap≤maxLen) (hsz:jE.size=cap*n) (hl:dk w (XB st.ae ρ Xc) (flat l) (jE.toList.take (l.length*n))) (hk:qV st dst (.row false e n l) k=some r):
 ∃ρ' st' key,Rel w0 F Xc ρ0 ρ' st' a (w.alloc (.cells jE e))∧ay (w.alloc (.cells jE e)) (XB st'.ae ρ' Xc) ρ' (.s (.c (.row key))) (.slice (some ⟨w.heap.size,0,none⟩) l.length cap)∧k st' key=some r:=by
 obtain⟨d,_,hf,hk1⟩:=DE hk
 have hnone:ρ (st.np+d)=none:=h.ae _ _ hf
 refine⟨_,_,_,h.new (hv:=.slice (some ⟨w.heap.size,0,none⟩) l.length cap) hf (cf.alloc (fun _=>False) w (.cells jE e)) (fun b hb=>by simp only[bq] at hb;split at hb <;> simp only[cC,reduceCtorEq] at hb;omega)
  (fun X' hX=>?_) (HQ _ _) (by simp),.one (c:=.row (st.np+d)) (by simp[ia,aw]) rfl,hk1⟩
 have hm':l.length*n≤cap*n:=E9 _ hc
 exact⟨hn,hu,⟨jE.toList.take (l.length*n),rowAt.jq (b:=0) ⟨by rw[mU,show jE.toList.length=cap*n from hsz];omega,.inr ⟨w.heap.size,cap,jE,rfl,HU _,OL w _,hc,hm,hsz,rfl⟩⟩,
  hl.step (cf.alloc (fun _=>False) _ _) (fun _ hb=>False.elim hb) hX⟩,fun hc=>by cases hc⟩
theorem DH:∀(c n:Nat) (l:List T),(FG c n l).length=c
 | 0,_,_=>rfl
 | c+1,n,l=>by simp[FG,DH c n]
theorem SJ:∀(c n:Nat) (l:List T),l.length=c*n→0<n→(∀t∈l,∀m,t≠.agg m)→dr n (FG c n l)∧flat (FG c n l)=l
 | 0,n,l,h,_,_=>by
  have:l=[]:=vJ (by simpa using h)
  subst this
  exact⟨.nil n,rfl⟩
 | c+1,n,l,h,hn,ha=>by
  rw[tU,ZV] at h
  obtain⟨e1,e2⟩:=SJ c n (l.drop n) (by simp;omega) hn (fun t ht=>ha t (TX ht))
  have hc:=LG (n:=n) (ts:=l.take n) (by simp;omega) (fun t ht=>ha t (IE ht))
  refine⟨fun t ht=>?_,?_⟩
  ·simp only[FG,cN] at ht
   rcases ht with rfl | ht
   ·rw[hc];simp;omega
   ·exact e1 t ht
  ·simp only[FG,rH,hc,e2,List.take_append_drop]
theorem CC{α:Type}(c:Nat)(l:List α):((List.range c).flatMap fun _=>l).length=c*l.length:=by
 induction c with
 | zero=>simp
 | succ c ih=>rw[T6,ZW,tT,ih];simp[tU]
theorem BW{α:Type}(c:Nat)(l:List α)(i:Nat)(hi:i<c*l.length):((List.range c).flatMap fun _=>l)[i]?=l[i%l.length]?:=by
 induction c with
 | zero=>simp at hi
 | succ c ih=>
  rw[T6,ZW,sC,CC]
  split
  ·exact ih (by assumption)
  ·rename_i hlt
   rw[tU,ZV] at hi
   have:i%l.length=i-c*l.length:=by
    have h1:i=(i-c*l.length)+l.length*c:=by have:=Nat.mul_comm c l.length;omega
    conv=>lhs;rw[h1]
    rw[Nat.add_mul_mod_self_left,Nat.mod_eq_of_lt (by omega)]
   simp[this]
theorem Jj(c:Nat)(x:T):flat (List.replicate c x)=(List.range c).flatMap fun _=>x.cells:=by
 induction c with
 | zero=>rfl
 | succ c ih=>rw[List.replicate_succ',yI,ih,T6,ZW];simp[flat]
theorem O7(z:Array Value)(n i:Nat)(hi:i<n)(hz:0<z.size):(madeCells z n).toList[i]?=z.toList[i%z.size]?:=by
 have hlt:i%z.size<z.size:=Nat.mod_lt _ hz
 unfold madeCells
 rw[MK,Array.getElem?_map,Array.getElem?_range,aC hi,fH,MK,getElem!_pos z _ hlt,vL hlt]
theorem Oq{z:Array Value}{ts:List T}{c m:Nat}(h:dk w X ts z.toList)(hz:0<z.size)(hm:c*z.size≤m):dk w X ((List.range c).flatMap fun _=>ts) ((madeCells z m).toList.take (c*z.size)):=by
 have hl:=h.1
 rw[mT] at hl
 refine⟨by rw[mU,mT,K5,CC,←hl,OP hm],fun i t y h1 h2=>?_⟩
 rw[pW] at h2
 split at h2
 ·rename_i hi
  rw[O7 z m i (by omega) hz] at h2
  rw[BW c ts i (by rw[hl] at hi;exact hi),←hl] at h1
  exact h.2 _ t y h1 h2
 ·cases h2
theorem RL{dst:Option Nat}{t:TypeId}{l c:D}{vl vc:Value}{k:St→D→Option R}(h:Rel w0 F Xc ρ0 ρ st a w)(hl:ay w (XB st.ae ρ Xc) ρ l vl)(hc:ay w (XB st.ae ρ Xc) ρ c vc)
 (hk:sF P st dst t l c k=some r):
 ∃y w' ρ' st' d,(Instr.makeSlice t vl vc).run P w=.ok y w'∧Rel w0 F Xc ρ0 ρ' st' a w'∧ay w' (XB st'.ae ρ' Xc) ρ' d y∧k st' d=some r:=by
 unfold sF at hk
 split at hk
 case h_2=>cases hk
 rename_i e ht
 split at hk
 case h_2=>cases hk
 rename_i i hi
 split at hk
 case h_2=>cases hk
 rename_i z hz
 split at hk
 case h_2=>cases hk
 rename_i cs hcs
 split at hk
 case h_2=>cases hk
 rename_i ts hts
 split at hk
 case isFalse=>cases hk
 rename_i hcond
 obtain⟨hlen,hpos⟩:=hcond
 obtain⟨k1,l,rfl,hk1⟩:=sV hl hk
 obtain⟨k2,c,rfl,hk2⟩:=sV hc hk1
 obtain⟨p,hp,hk3⟩:=bK hk2
 clear hk hk1 hk2
 unfold vR at hp
 split at hp
 case isFalse=>cases hp
 rename_i hcon
 obtain⟨c1,c2,c3,c4⟩:=hcon
 cases hp
 obtain⟨hz1,hz2⟩:=CS (w:=w) (X:=XB st.ae ρ Xc) (ρ:=ρ) hcs
 obtain⟨t1,t2,t3⟩:=O3 hz1 hts
 have hmt:=LG (n:=i.size) (ts:=ts) hlen t3
 have hzl:z.cells.size=i.size:=by have:=t2.1;rw[mT] at this;omega
 have hrun:=run_make (P:=P) w t e i z ht hi hz k1 k2 l c c1 c2 c3 (by simp only[maxLen] at c4;omega)
 simp only[E3] at hk3
 have hmul:l.toNat*i.size≤c.toNat*i.size:=E9 _ (by omega)
 obtain⟨ρ',st',key,hR,hd,hk4⟩:=LO (cap:=c.toNat) (jE:=madeCells z.cells (c.toNat*i.size)) h hpos (fun t ht=>by rw[OQ ht,hmt,hlen]) (by simp;omega) (by omega) (K5 _ _) (by
  rw[Jj,hmt,OR,←hzl]
  exact Oq t2 (by omega) (by rw[hzl];exact hmul)) hk3
 rw[OR] at hd
 exact⟨_,_,ρ',st',_,hrun,hR,hd,hk4⟩
theorem Al{dst:Option Nat}{t:TypeId}{l c:D}{vl vc:Value}{k:St→D→Option R}(h:Rel w0 F Xc ρ0 ρ st a w)(hl:ay w (XB st.ae ρ Xc) ρ l vl)(hc:ay w (XB st.ae ρ Xc) ρ c vc)
 (hk:BV P st dst t l c k=some r):
 ∃y w' ρ' st' d,(Instr.makeSlice t vl vc).run P w=.ok y w'∧Rel w0 F Xc ρ0 ρ' st' a w'∧ay w' (XB st'.ae ρ' Xc) ρ' d y∧k st' d=some r:=by
 unfold BV at hk
 split at hk
 case h_2=>cases hk
 rename_i e ht
 split at hk
 case h_2=>cases hk
 rename_i i e2 hi he2
 split at hk
 case h_2=>cases hk
 rename_i n hz hn2
 split at hk
 case isFalse=>cases hk
 rename_i hcond
 obtain⟨hsz,hpos⟩:=hcond
 obtain⟨k1,l,rfl,hk1⟩:=sV hl hk
 obtain⟨k2,c,rfl,hk2⟩:=sV hc hk1
 obtain⟨p,hp,hk3⟩:=bK hk2
 clear hk hk1 hk2
 unfold vR at hp
 split at hp
 case isFalse=>cases hp
 rename_i hcon
 obtain⟨c1,c2,c3,c4⟩:=hcon
 cases hp
 have hrun:=run_make (P:=P) w t e i (.slice none 0 0) ht hi hz k1 k2 l c c1 c2 c3 (by simp only[maxLen] at c4;omega)
 simp only[E3] at hk3
 obtain⟨d,_,hf,hk4⟩:=DE hk3
 rw[hsz,MP] at hrun
 have hone:(Value.slice none 0 0).cells=#[.slice none 0 0]:=rfl
 have hms:(madeCells #[Value.slice none 0 0] c.toNat).size=c.toNat:=K5 _ _
 have hget:∀j,j<c.toNat→(madeCells #[Value.slice none 0 0] c.toNat).toList[j]?=some (.slice none 0 0):=fun j hj=>by
  rw[O7 _ _ _ hj (by decide)]
  have:j%(#[Value.slice none 0 0]:Array Value).size=0:=Nat.mod_one j
  rw[this];rfl
 have hlc:l.toNat≤c.toNat:=by omega
 have hcm:c.toNat≤maxLen:=by omega
 refine⟨_,_,_,_,_,hrun,h.mh (hv:=.tuple (.slice (some ⟨w.heap.size,0,none⟩) l.toNat c.toNat::List.replicate l.toNat (.slice none 0 0)).toArray) (o:=.rr none e e2 n (List.replicate l.toNat [])) hf
  (cf.alloc (fun _=>False) w (.cells (madeCells #[.slice none 0 0] c.toNat) e)) (fun b hb=>?_) (fun X' hX=>?_) (HQ _ _) (by simp),.one (c:=.rk (st.np+d)) ⟨(.slice (some ⟨w.heap.size,0,none⟩) l.toNat c.toNat::List.replicate l.toNat (.slice none 0 0)).toArray,by simp[aw],rfl⟩ rfl,hk4⟩
 ·rcases hb with hb | ⟨vs,hvs,y,hy,hyb⟩
  ·cases hb
  ·cases hvs
   simp only[cN] at hy
   rcases hy with rfl | hy
   ·simp only[bq] at hyb;split at hyb <;> simp only[cC,reduceCtorEq] at hyb;omega
   ·rw[OQ hy] at hyb;cases hyb
 ·have hnilb:∀(j:Nat) y b,(List.replicate l.toNat (Value.slice none 0 0))[j]?=some y→¬bq y=some b:=fun j y b hj hb=>by
   rw[OQ (mS hj)] at hb;cases hb
  refine⟨hpos,.slice (some ⟨w.heap.size,0,none⟩) l.toNat c.toNat,List.replicate l.toNat (.slice none 0 0),(madeCells #[.slice none 0 0] c.toNat).toList.take (l.toNat*1),rfl,?_,by simp,fun j y z q1 q2=>?_,fun j m y q1 q2=>?_,fun j1 j2 y z b q1 q2 q3 q4=>?_⟩
  ·rw[OR]
   exact rowAt.jq (b:=0) ⟨by rw[mU,mT,hms];omega,.inr ⟨w.heap.size,c.toNat,_,rfl,HU _,OL w _,hlc,hcm,hms.trans (MP _).symm,rfl⟩⟩
  ·have hj:j<l.toNat:=by have:=(dA.1 q2).1;simpa using this
   rw[pW,aC (by omega),hget j (by omega)] at q1
   cases q1
   rw[K6,aC hj] at q2
   cases q2
   exact⟨rfl,fun _=>rfl⟩
  ·have e1:=OQ (mS q1)
   have e3:=OQ (mS q2)
   subst e1;subst e3
   exact⟨.nil n,[],rowAt.nil _ _ _,⟨rfl,fun i t y h1 _=>by simp[flat] at h1⟩⟩
  ·cases j1 with
   | succ j1=>exact(hnilb j1 y b (by simpa using q1) q3).elim
   | zero=>cases j2 with
    | succ j2=>exact(hnilb j2 z b (by simpa using q2) q4).elim
    | zero=>rfl
theorem NF{dst:Option Nat}{t:TypeId}{len:Nat}{parts:List (Nat×D)}{vparts:Array (Nat×Value)}{k:St→D→Option R}(h:Rel w0 F Xc ρ0 ρ st a w)(hlen:parts.length=vparts.toList.length)
 (hp:∀(i:Nat) p q,parts[i]?=some p→vparts.toList[i]?=some q→p.1=q.1∧ay w (XB st.ae ρ Xc) ρ p.2 q.2) (hk:oD P st dst t len parts k=some r):
 ∃y w' ρ' st' d,(Instr.buildSlice t len vparts).run P w=.ok y w'∧Rel w0 F Xc ρ0 ρ' st' a w'∧ay w' (XB st'.ae ρ' Xc) ρ' d y∧k st' d=some r:=by
 unfold oD at hk
 split at hk
 case h_2=>cases hk
 rename_i e ht
 split at hk
 case h_2=>cases hk
 rename_i i hi
 split at hk
 case h_2=>cases hk
 rename_i z hz
 split at hk
 case h_2=>cases hk
 rename_i cs hcs
 split at hk
 case isFalse=>cases hk
 rename_i hcond
 obtain⟨hcl,hpos,hlpos,hmax⟩:=hcond
 split at hk
 case h_2=>cases hk
 rename_i l hl
 split at hk
 case h_2=>cases hk
 rename_i q hfq
 obtain⟨objs',l'⟩:=q
 dsimp only at hk
 split at hk
 case h_2=>cases hk
 rename_i tys htys
 obtain⟨hz1,hz2⟩:=CS (w:=w) (X:=XB st.ae ρ Xc) (ρ:=ρ) hcs
 have hzl:z.cells.size=i.size:=by have:=hz1.1;rw[mT] at this;omega
 have hinit:bu w (XB st.ae ρ Xc) ρ ((List.range len).flatMap fun _=>cs) (madeCells z.cells (len*i.size)).toList:=by
  refine⟨by rw[mT,K5,CC,hcl],fun j c y h1 h2=>?_⟩
  have hj:j<len*i.size:=by
   have:=(dA.1 h2).1
   rw[mT,K5] at this;exact this
  rw[O7 z.cells _ j hj (by omega)] at h2
  rw[BW len cs j (by rw[hcl];exact hj),hcl,←hzl] at h1
  exact hz1.2 _ c y h1 h2
 obtain⟨ys',e1,e2⟩:=JI (fun q=>some (q*i.size,i.size)) parts vparts.toList _ _ l hinit hlen hp hl
 obtain⟨h,e2⟩:=US h e2 hfq
 obtain⟨ts,hk,t1,t2,t3⟩:=GZ e2 hk
 have hsize:ys'.size=len*i.size:=by
  have hfill:∀(place:Nat→Option (Nat×Nat)) (vp:List (Nat×Value)) (ys zs:Array Value),Instr.fill place ys vp=some zs→zs.size=ys.size:=by
   intro place vp
   induction vp with
   | nil=>intro ys zs h;simp only[Instr.fill,cC] at h;rw[h]
   | cons p vp ih=>
    intro ys zs h
    obtain⟨pi,pv⟩:=p
    simp only[Instr.fill] at h
    split at h
    ·cases h
    ·rename_i off size hpl
     split at h
     ·cases h
     ·rename_i hcnd
      have:=ih _ _ h
      rw[this,←Array.foldl_toList]
      have hf:=WQ pv.cells.toList 0 off ys (by
       simp only[vM,pD,cK,EK,Decidable.not_not] at hcnd
       rw[mT];omega)
      rw[Array.toList_zipIdx]
      have hl':=fL List.length hf
      rw[mT] at hl'
      rw[show (fun(cs:Array Value) (x:Value×Nat)=>match x with | (c,j)=>cs.setIfInBounds (off+j) c)=fun cs x=>cs.setIfInBounds (off+x.2) x.1 from rfl,hl']
      simp only[vM,pD,cK,EK,Decidable.not_not] at hcnd
      simp;omega
  rw[hfill _ _ _ _ e1,K5]
 have htl:ts.length=len*i.size:=by have:=t2.1;rw[mT] at this;omega
 obtain⟨u1,u2⟩:=SJ len i.size ts htl hpos.1 t3
 have hlen':len≤len*i.size:=Nat.le_mul_of_pos_right _ hpos.1
 obtain⟨ρ',st',key,hR,hd,hk4⟩:=LO (cap:=len) (jE:=ys') (e:=e) h hpos u1 (by rw[DH];exact gU _) (by simp only[maxLen];omega) hsize (by
  rw[u2,DH,IF (by rw[mT];omega)]
  exact t2) hk
 rw[DH] at hd
 refine⟨_,_,ρ',st',_,?_,hR,hd,hk4⟩
 unfold Instr.buildSlice
 have hne:len*i.size≠0:=by have:=Nat.mul_pos hlpos hpos.1;omega
 simp only[bO,qT ht,dM,iT (show MS P e=some i.size by simp[MS,hi])]
 rw[aA (by omega),aA hne]
 simp only[bO,xZ hi hz,dM,iL]
 rw[show (Array.range (len*i.size)).map (fun x=>z.cells[x%z.cells.size]!)=madeCells z.cells (len*i.size) from rfl,e1]
 simp[newRow]
theorem O8{dst:Option Nat}{t:TypeId}{len:Nat}{parts:List (Nat×D)}{vparts:Array (Nat×Value)}{k:St→D→Option R}(h:Rel w0 F Xc ρ0 ρ st a w)(hlen:parts.length=vparts.toList.length)
 (hp:∀(i:Nat) p q,parts[i]?=some p→vparts.toList[i]?=some q→p.1=q.1∧ay w (XB st.ae ρ Xc) ρ p.2 q.2) (hk:kP P st dst t len parts k=some r):
 ∃y w' ρ' st' d,(Instr.buildSlice t len vparts).run P w=.ok y w'∧Rel w0 F Xc ρ0 ρ' st' a w'∧ay w' (XB st'.ae ρ' Xc) ρ' d y∧k st' d=some r:=by
 unfold kP at hk
 split at hk
 ·rename_i hc
  obtain⟨rfl,hpe⟩:=hc
  have hpe':parts=[]:=K7.1 hpe
  subst hpe'
  have hv:vparts=#[]:=ZU.1 (vJ hlen.symm)
  subst hv
  split at hk
  case h_2=>cases hk
  rename_i e ht
  split at hk
  case h_2=>cases hk
  rename_i n hn
  split at hk
  case isFalse=>cases hk
  rename_i hpos
  obtain⟨ρ',st',key,hR,hd,hk4⟩:=LO (cap:=0) (jE:=#[]) (e:=e) (l:=[]) h hpos (.nil n) (gU _) (HU _) (by simp) ⟨by simp[flat],fun i t y h1 _=>by simp[flat] at h1⟩ hk
  refine⟨_,_,ρ',st',_,?_,hR,hd,hk4⟩
  unfold Instr.buildSlice
  simp[qT ht,iT hn,newRow,Instr.fill]
  rw[show (Array.range 0).map (fun _=>(default:Value))=#[] from ZX (by simp[Array.toList_range])]
 ·exact NF h hlen hp hk
end
section
variable {R:Type} {P:Program} {w0 w w':World} {F Xc X:Nat→Prop} {ρ0:cn} {ρ:nT} {st:St} {a:Act} {r:R}
theorem U3{t:TypeId}{x:D}{vx:Value}{k:St→D→Option R}(h:Rel w0 F Xc ρ0 ρ st a w)(hx:ay w (XB st.ae ρ Xc) ρ x vx)(hk:G1 P st t x k=some r):
 ∃y st' d,(Instr.sliceAt t vx none none none).run P w=.ok y w∧Rel w0 F Xc ρ0 ρ st' a w∧ay w (XB st'.ae ρ Xc) ρ d y∧k st' d=some r:=by
 unfold G1 at hk
 cases hk
theorem Gq{t:TypeId}{x:D}{v:Value}{lo hi mx:Option D}{vlo vhi vmx:Option Value}{k:St→D→Option R}(hR:Rel w0 F Xc ρ0 ρ st a w)(h:ay w (XB st.ae ρ Xc) ρ x v)(hlo:MY w (XB st.ae ρ Xc) ρ lo vlo)(hhi:MY w (XB st.ae ρ Xc) ρ hi vhi)
 (hmx:MY w (XB st.ae ρ Xc) ρ mx vmx) (hk:AZ P st t x lo hi mx k=some r):∃y st' d,(Instr.sliceAt t v vlo vhi vmx).run P w=.ok y w∧Rel w0 F Xc ρ0 ρ st' a w∧ay w (XB st'.ae ρ Xc) ρ d y∧k st' d=some r:=by
 unfold AZ at hk
 split at hk
 ·split at hk
  case isFalse=>cases hk
  rename_i hn
  obtain⟨h1,h2,h3⟩:=hn
  have e1:vlo=none:=by
   cases lo with
   | none=>cases vlo with | none=>rfl | some v=>exact hlo.elim
   | some d=>cases h1
  have e2:vhi=none:=by
   cases hi with
   | none=>cases vhi with | none=>rfl | some v=>exact hhi.elim
   | some d=>cases h2
  have e3:vmx=none:=by
   cases mx with
   | none=>cases vmx with | none=>rfl | some v=>exact hmx.elim
   | some d=>cases h3
  subst e1;subst e2;subst e3
  exact U3 hR h hk
 ·obtain⟨y,d,q1,q2,q3⟩:=Fz (P:=P) (w:=w) hR h hlo hhi hmx hk
  exact⟨y,st,d,q1,hR,q2,q3⟩
end
section
variable {R:Type} (P:Program)
def SK{R:Type}(P:Program)(st:St)(src dst:TypeId)(x:D)(k:D→Option R):Option R:=none
end
section
variable {R:Type} {P:Program} {w0 w:World} {F Xc:Nat→Prop} {ρ0:cn} {ρ:nT} {st:St} {a:Act} {r:R}
theorem Jk{src dst:TypeId}{x:D}{v:Value}{k:D→Option R}(hR:Rel w0 F Xc ρ0 ρ st a w)(h:ay w (XB st.ae ρ Xc) ρ x v)(hk:SK P st src dst x k=some r):
 ∃y w' d,(convert src dst v).run P w=.ok y w'∧cf (fun _=>False) w w'∧ay w' (XB st.ae ρ Xc) ρ d y∧k d=some r:=by
 unfold SK at hk
 cases hk
end
section
def SE{R:Type}(P:Program)(st:St)(t:TypeId)(s x:D)(k:St→D→Option R):Option R:=none
end
section
variable {R:Type} {P:Program} {w0 w:World} {F Xc:Nat→Prop} {ρ0:cn} {ρ:nT} {st:St} {a:Act} {r:R}
theorem Iw{t u ty:TypeId}{s x:D}{vs vx:Value}{k:St→D→Option R}(h:Rel w0 F Xc ρ0 ρ st a w)(hs:ay w (XB st.ae ρ Xc) ρ s vs)(hx:ay w (XB st.ae ρ Xc) ρ x vx)
 (hk:SE P st t s x k=some r):
 ∃y w' st' d,(Builtin.copy_ #[t,u] ty #[vs,vx]).run P w=.ok y w'∧Rel w0 F Xc ρ0 ρ st' a w'∧ay w' (XB st'.ae ρ Xc) ρ d y∧k st' d=some r:=by
 unfold SE at hk
 cases hk
end
@[irreducible] def RN{α:Type}(l:List α):Bool:=l.isEmpty
def Su:D:=.s (.c .fg)
section
variable {R:Type} (P:Program)
def Ar:D→Bool
 | .s (.c (.t (.v (.slice none 0 0))))=>true
 | _=>false
def As(st:St)(eq:Bool)(c:C)(k:D→Option R):Option R:=match c with
 | .t (.v (.slice none 0 0))=>k (dB eq)
 | .t (.sl n l)=>if n<1000000000 then (bif RN l then k Su else k (dB (!eq))) else none
 | .row key=>match st.ae[key]? with
  | some (.row _ _ _ es)=>bif RN es then k Su else k (dB (!eq))
  | _=>none
 | _=>none
def RP(st:St)(op:BinOp)(ty yty:TypeId)(x y:D)(k:D→Option R):Option R:=match P.underlying ty with
 | some (.slice _)=>if Ar y=true then AI x fun c=>if op=.eql then As st true c k else if op=.neq then As st false c k else none else none
 | _=>Fo P op ty yty x y k
end
section
variable {R:Type} {P:Program} {w0 w:World} {F Xc:Nat→Prop} {ρ0:cn} {ρ:nT} {st:St} {a:Act} {r:R}
theorem PH(t e:TypeId)(a:Option Addr)(l c:Nat)(h:P.underlying t=some (.slice e)):(Op.equal t (.slice a l c) (.slice none 0 0)).run P w=.ok a.isNone w:=by
 have key:∀d:Nat,(Op.equalIn (d+1) t (.slice a l c) (.slice none 0 0)).run P w=.ok a.isNone w:=fun d=>by
  cases a <;> simp[Op.equalIn,qT h]
 exact key 9999
theorem Gf{X:Nat→Prop}{d:D}{v:Value}(h:ay w X ρ d v)(hd:Ar d=true):v=.slice none 0 0:=by
 unfold Ar at hd
 split at hd
 ·rcases h with h | ⟨h,_⟩
  ·cases h
  ·exact Rd.cq h
 ·cases hd
theorem De{eq:Bool}{c:C}{v:Value}{k:D→Option R}(hR:Rel w0 F Xc ρ0 ρ st a w)(hc:ch w (XB st.ae ρ Xc) ρ c v)(hk:As st eq c k=some r):
 ∃ad l q d,v=.slice ad l q∧k d=some r∧ay w (XB st.ae ρ Xc) ρ d (.bool (ad.isNone==eq)):=by
 have fg:∀b:Bool,ay w (XB st.ae ρ Xc) ρ Su (.bool b):=fun b=>.one (c:=.fg) ⟨b,rfl⟩ rfl
 have nn:∀(x:Addr),ay w (XB st.ae ρ Xc) ρ (dB (!eq)) (.bool ((some x).isNone==eq)):=fun x=>by
  cases eq <;> exact .bool _
 unfold As at hk
 split at hk
 ·rcases hc with hc | ⟨hc,_⟩
  ·cases hc
  ·have:=Rd.cq hc
   subst this
   exact⟨none,0,0,_,rfl,hk,by cases eq <;> exact .bool _⟩
 ·rename_i n l
  split at hk
  case isFalse=>cases hk
  rename_i hnm
  rcases hc with hc | ⟨hc,_⟩
  ·cases hc
  ·unfold RN at hk
   have hc':Rd w (XB st.ae ρ Xc) (.sl n l) v:=hc
   cases hc' with
   | mp _ _ _ _ _ hbig=>omega
   | nil=>exact⟨none,0,0,_,rfl,hk,fg _⟩
   | sl _ _ ad c ys=>
    cases hl:l.isEmpty with
    | true=>rw[hl] at hk;exact⟨some ad,_,c,_,rfl,hk,fg _⟩
    | false=>rw[hl] at hk;exact⟨some ad,_,c,_,rfl,hk,nn ad⟩
 ·rename_i key
  split at hk
  ·rename_i fz e n es hob
   rcases hc with hc | ⟨hc,_⟩
   ·cases hc
   ·obtain⟨hv,e1,e2⟩:=hR.ae key _ hob
    have hcc:ρ key=some v:=hc
    rw[hcc] at e1
    cases e1
    unfold RN at hk
    rcases pI e2 with⟨rfl,rfl⟩ | ⟨a0,cap,rfl,_⟩
    ·exact⟨none,0,0,_,rfl,hk,fg _⟩
    ·cases hl:es.isEmpty with
     | true=>rw[hl] at hk;exact⟨some a0,_,cap,_,rfl,hk,fg _⟩
     | false=>rw[hl] at hk;exact⟨some a0,_,cap,_,rfl,hk,nn a0⟩
  ·cases hk
 ·cases hk
theorem Ox{op:BinOp}{ty yty:TypeId}{x y:D}{xo yo:Operand}{vx vy:Value}{k:D→Option R}(hR:Rel w0 F Xc ρ0 ρ st a w)(hx:ay w (XB st.ae ρ Xc) ρ x vx)(hy:ay w (XB st.ae ρ Xc) ρ y vy)(hk:RP P st op ty yty x y k=some r):
 ∃d v,(do eqGuard op ty xo yo vx vy;binOp op ty vx vy:Sem Value).run P w=.ok v w∧ay w (XB st.ae ρ Xc) ρ d v∧k d=some r:=by
 unfold RP at hk
 split at hk
 ·rename_i e hu
  split at hk
  case isFalse=>cases hk
  rename_i hn
  have:=Gf hy hn
  subst this
  obtain⟨c,rfl,hc,hk1⟩:=vN hx hk
  split at hk1
  ·rename_i ho
   subst ho
   obtain⟨ad,l,q,d,rfl,hk2,hd⟩:=De hR hc hk1
   refine⟨d,_,?_,hd,hk2⟩
   simp only[bO,FC (a:=.slice ad l q) (by simp) (by simp),dM]
   simp[binOp,PH ty e ad l q hu]
  ·split at hk1
   ·rename_i ho
    subst ho
    obtain⟨ad,l,q,d,rfl,hk2,hd⟩:=De hR hc hk1
    refine⟨d,_,?_,hd,hk2⟩
    simp only[bO,FC (a:=.slice ad l q) (by simp) (by simp),dM]
    simp[binOp,PH ty e ad l q hu]
   ·cases hk1
 ·exact Ok hx hy hk
end
structure mb where
 go:{R:Type}→St→Option Nat→List D→(St→D→Option R)→Option R
structure Ext where
 go:{R:Type}→List D→(D→Option R)→Option R
structure Callee where
 rows:List (Option (TypeId×Nat)):=[]
 call:{R:Type}→List S1→List O→(List S1→List O→Option R)→Option R
 inl:Option mb:=none
 ext:Option Ext:=none
 quiet:List Nat:=[]
 loose:List Nat:=[]
 /-- boxes to which boxes that are handed over point are handed over too -/
 deep:Bool:=false
def ew(w:World)(X:Nat→Prop)(ρ:nT)(rs:List S1)(v:Value):Prop:=match rs with
 | [s]=>ek w X ρ s v
 | l=>∃vs:Array Value,v=.tuple vs∧cy w X ρ l vs.toList
def Vd(w:World)(Xc:Nat→Prop)(ρ:nT)(po:List O)(rs:List S1)(po':List O)(e:Ending)(w':World):Prop:=
 ∃v ρ',e=.returned v∧cf (BM po ρ) w w'∧(∀k,k<po.length→ρ' k=ρ k)∧po.length≤po'.length ∧
  (∀(k:Nat) o,po'[k]?=some o→Ut w' (XB po' ρ' Xc) ρ' k o)∧Wx po' ρ'∧(∀k b,Has po' ρ' k b→(∃k',Has po ρ k' b)∨w.heap.size≤b)∧ew w' (XB po' ρ' Xc) ρ' rs v
def Ga(P:Program)(g:Nat)(k:IntKind):Prop:=∃t zero,g<P.globals.size∧((begin P (fun _ _=>0) default).world.heap[g]?).bind Obj.row?=some (zero,t)∧zero.size=1∧P.buildable t=true ∧
 P.cellTypes P.depth t=some [t]∧P.underlying t=some (.int k)
def Good(P:Program)(w:World)(F:Nat→Prop):Prop:=∀g k,Ga P g k→¬F g∧∃m,w.cell? ⟨g,0,none⟩=some (.int k m)
theorem Good.call{P:Program}{w0 w:World}{F F':Nat→Prop}(hG:Good P w0 F)(hfr:cf F w0 w)(h1:∀b,F' b→w0.heap.size≤b∨F b):Good P w F':=
 fun g k hg=>let ⟨a,m,hm⟩:=hG g k hg
  ⟨fun hb=>(h1 g hb).elim (fun hh=>Nat.lt_irrefl _ (KY (TY w0 _ hm) hh)) a,m,hfr.cell hm a⟩
def Jl(P:Program)(f:FuncId)(args:List S1)(po:List O)(rs:List S1)(po':List O):Prop:=
 ∀(w:World) (Xc:Nat→Prop) (ρ:nT) (vals:List Value),(∀(k:Nat) o,po[k]?=some o→Ut w (XB po ρ Xc) ρ k o)→Wx po ρ→(∀b,Xc b→b<w.heap.size)→(∀b,BM po ρ b→¬Xc b)→Good P w (BM po ρ)→cy w (XB po ρ Xc) ρ args vals →
  Calls P f vals.toArray w (Vd w Xc ρ po rs po')
def mb.OK(P:Program)(f:FuncId)(I:mb):Prop:=
 ∀{R:Type} {w0 w:World} {F Xc:Nat→Prop} {ρ0:cn} {ρ:nT} {st:St} {a:Act} {r:R} (dst:Option Nat) (ds:List D) (vals:List Value) (k:St→D→Option R),Good P w0 F→Rel w0 F Xc ρ0 ρ st a w→ds.length=vals.length →
  (∀(i:Nat) d v,ds[i]?=some d→vals[i]?=some v→ay w (XB st.ae ρ Xc) ρ d v)→I.go st dst ds k=some r →
  Calls P f vals.toArray w fun e w'=>∃v ρ' st' d,e=.returned v∧Rel w0 F Xc ρ0 ρ' st' a w'∧ay w' (XB st'.ae ρ' Xc) ρ' d v∧k st' d=some r
def Callee.qe(P:Program)(f:FuncId)(A:Callee):Prop:=
 ∀{R:Type} (args:List S1) (po:List O) (k:List S1→List O→Option R) (r:R),A.call args po k=some r→∃rs po',k rs po'=some r∧Jl P f args po rs po'
def Ext.OK(P:Program)(f:FuncId)(I:Ext):Prop:=
 ∀{R:Type} {w:World} {X:Nat→Prop} {ρ:nT} {r:R} (ds:List D) (vals:List Value) (k:D→Option R),ds.length=vals.length→(∀(i:Nat) d v,ds[i]?=some d→vals[i]?=some v→ay w X ρ d v)→I.go ds k=some r →
  ∃y d,(callFunc f vals.toArray).run P w=.ok (.value y) w∧ay w X ρ d y∧k d=some r
def Callee.OK(P:Program)(f:FuncId)(A:Callee):Prop:=A.qe P f∧(∀I,A.inl=some I→I.OK P f)∧∀I,A.ext=some I→I.OK P f
def FI(P:Program)(f:FuncId):Prop:=∃fn,P.funcs[f]?=some fn∧fn.body.isSome=true∧(fn.name == "runtime.NumGoroutine")=false
def je(P:Program)(Γ:FuncId→Option Callee):Prop:=∀f A,Γ f=some A→(A.ext=none→FI P f)∧A.OK P f
def Gb:List D→Option (List S1)
 | []=>some []
 | .s s::l=>(Gb l).map (s::·)
 | .ee _::_=>none
def S1.list:S1→List C
 | .c x=>[x]
 | .agg x=>x
def C.ks:C→List Nat
 | .box k _=>[k]
 | .fn _ caps=>caps.map (·.1)
 | _=>[]
def Oc:List Nat→List Nat→List Nat
 | acc,[]=>acc.reverse
 | acc,k::l=>if acc.contains k then Oc acc l else Oc (k::acc) l
def MZ(l:List S1):List Nat:=Oc [] (l.flatMap fun s=>s.list.flatMap C.ks)
def Sn:Option O→List Nat
 | some (.box l)=>l.flatMap C.ks
 | _=>[]
def So(ae:List O)(ks:List Nat):List Nat:=ks.flatMap fun k=>Sn ae[k]?
def yL(deep:Bool)(ae:List O)(l:List S1):List Nat:=bif deep then Oc [] (MZ l++So ae (MZ l)) else MZ l
def IR(ks:List Nat)(k:Nat):Option Nat:=ks.idxOf? k
def O9(st:St)(ks:List Nat):C→Option C
 | .t x=>some (.t x)
 | .row key=>match st.ae[key]? with
  | some (.row _ _ n es)=>some (.t (.sl n es))
  | some (.mp _ _ n es)=>some (.t (.sl n es))
  | _=>none
 | .box k j=>(IR ks k).map fun i=>.box i j
 | .fn f caps=>(sD (caps.map fun p=>(IR ks p.1).map fun i=>(i,p.2))).map (.fn f)
 | .self t=>some (.self t)
 | .cut key n lo len _=>match st.ae[key]? with
  | some (.row _ _ n' es)=>if n'=n then some (.t (.sl n (oC es lo len))) else none
  | _=>none
 | .top=>some .top
 | _=>none
def DI:C→Bool
 | .t _=>true
 | _=>false
def FJ:C→Bool
 | .t (.v _)=>true
 | _=>false
def JM:List S1→D
 | [s]=>.s s
 | l=>.ee l
def PA(st:St)(m:TypeId×Nat):C→Option (Option Nat×O)
 | .row key=>match st.ae[key]? with
  | some (.row false e n l)=>if e=m.1∧n=m.2 then some (some key,.row false e n l) else none
  | some (.mp false e n l)=>if e=m.1∧n=m.2 then some (some key,.mp false e n l) else none
  | _=>none
 | .t (.v (.slice none 0 0))=>if 0<m.2∧m.2<1000000000 then some (none,.row false m.1 m.2 []) else none
 | _=>none
def rU(st:St)(ks:List Nat):Nat→List (Option (TypeId×Nat))→List C→Option (List C×List (Option Nat×O))
 | _,_,[]=>some ([],[])
 | j,ms,c::cs=>match ms.headD none with
  | some m=>match PA st m c,rU st ks (j+1) ms.tail cs with
   | some p,some q=>some (.row j::q.1,p::q.2)
   | _,_=>none
  | none=>match O9 st ks c,rU st ks j ms.tail cs with
   | some c',some q=>some (c'::q.1,q.2)
   | _,_=>none
def lU:List (Option (TypeId×Nat))→List C→List Nat
 | _,[]=>[]
 | ms,c::cs=>match ms.headD none with
  | some _=>lU ms.tail cs
  | none=>C.rs c++lU ms.tail cs
def zX:List S1→List C→List S1
 | [],_=>[]
 | .c _::l,cs=>.c (cs.headD .top)::zX l cs.tail
 | .agg a::l,cs=>.agg (cs.take a.length)::zX l (cs.drop a.length)
def jZ:List (List C)→List C→List O
 | [],_=>[]
 | a::l,cs=>.box (cs.take a.length)::jZ l (cs.drop a.length)
def CT(ae:List O)(k:Nat):Option (List C):=match ae[k]? with
 | some (.box l)=>some l
 | _=>none
def Ot(km:List (Option Nat))(p:Nat×Nat):Option (Nat×Nat):=match km[p.1]? with
 | some (some k)=>some (k,p.2)
 | _=>none
def A2(km:List (Option Nat)):C→Option C
 | .t x=>some (.t x)
 | .box i j=>match km[i]? with
  | some (some k)=>some (.box k j)
  | _=>none
 | .row i=>match km[i]? with
  | some (some k)=>some (.row k)
  | some none=>some (.t (.v (.slice none 0 0)))
  | none=>none
 | .fn f caps=>(sD (caps.map (Ot km))).map (.fn f)
 | .self t=>some (.self t)
 | .top=>some .top
 | _=>none
def JN(km:List (Option Nat)):S1→Option S1
 | .c c=>(A2 km c).map .c
 | .agg l=>(sD (l.map (A2 km))).map .agg
def FK(km:List (Option Nat)):O→Option O
 | .box l=>(sD (l.map (A2 km))).map .box
 | .row fz e n l=>some (.row fz e n l)
 | .mp fz e n l=>some (.mp fz e n l)
 | .dead=>some .dead
 | .cu _=>none
 | .rr _ _ _ _ _=>none
 | .fwd _=>none
 | .fresh=>none
def IS(ae:List O):List (Option Nat)→List O→List O
 | some k::km,o::os=>IS (ae.set k o) km os
 | none::km,_::os=>IS ae km os
 | _,_=>ae
def IT(st:St)(dst:Option Nat)(av:Nat):Option (List Nat):=match av,dst with
 | 0,_=>some []
 | n+1,some d=>let l:=(([0,1,2,3,4,5].map fun j=>st.np+(j*st.env.length+d)).filter fun i=>uG st.ae[i]?).take (n+1)
  if l.length=n+1 then some l else
   let l2:=((List.range st.ae.length).filter fun i=>decide (st.np≤i)&&uG st.ae[i]?).take (n+1)
   if l2.length=n+1 then some l2 else none
 | _,none=>none
section
variable {R:Type}
def A3(A:Callee)(st:St)(dst:Option Nat)(ds:List D)(k:St→D→Option R):Option R:=
 match Gb ds with
 | none=>none
 | some ss=>match sD ((yL A.deep st.ae ss).map (CT st.ae)) with
  | none=>none
  | some bl=>match rU st (yL A.deep st.ae ss) (yL A.deep st.ae ss).length A.rows (ss.flatMap S1.list++bl.flatten) with
   | none=>none
   | some (cs,rws)=>
    let rk:=rws.filterMap (·.1)
    let tk:=lU A.rows (ss.flatMap S1.list++bl.flatten)
    let po:=jZ bl (cs.drop (ss.flatMap S1.list).length)++rws.map (·.2)
    if decide rk.Nodup&&rk.all (fun z=>!tk.contains z) then
     A.call (zX ss cs) po fun rs po'=>
      if po.isEmpty&&po'.isEmpty&&rs.all (fun s=>s.list.all FJ) then k st (JM rs)
      else match IT { st with ae:=ai st.ae tk } dst (po'.length-po.length) with
       | none=>none
       | some nk=>
        let km:=(yL A.deep st.ae ss).map some++rws.map (·.1)++nk.map some
        if decide nk.Nodup&&decide (po.length≤po'.length) then match sD (po'.map (FK km)),sD (rs.map (JN km)) with
         | some po2,some rs'=>k { st with ae:=IS (ai st.ae tk) km po2 } (JM rs')
         | _,_=>none
        else none
    else none
def zP(A:Callee)(st:St)(dst:Option Nat)(ds:List D)(k:St→D→Option R):Option R:=match A.inl with
 | some I=>I.go st dst ds k
 | none=>A3 A st dst ds k
end
theorem LP:∀{l:List D} {m:List S1},Gb l=some m→l=m.map .s
 | [],m,h=>by simp only[Gb,cC] at h;subst h;rfl
 | .s s::l,m,h=>by
  simp only[Gb] at h
  cases hs:Gb l with
  | none=>simp[hs] at h
  | some q=>
   simp only[hs,fH,cC] at h
   subst h
   rw[LP hs];rfl
 | .ee _::l,m,h=>by simp[Gb] at h
theorem UV:∀(l acc:List Nat),acc.Nodup→(Oc acc l).Nodup
 | [],acc,h=>by simp only[Oc];exact List.pairwise_reverse.2 (h.imp fun hab=>OS hab)
 | k::l,acc,h=>by
  simp only[Oc]
  split
  ·exact UV l acc h
  ·rename_i hc
   refine UV l (k::acc) (cY.2 ⟨fun hm=>hc (by simpa using hm),h⟩)
theorem W4(l:List S1):(MZ l).Nodup:=UV _ _ OT
theorem W5(deep:Bool)(ae:List O)(l:List S1):(yL deep ae l).Nodup:=by
 cases deep
 ·exact W4 l
 ·exact UV _ _ OT
def Jm(A:Callee):Callee:={ A with deep:=true }
section
variable {P:Program} {w0 w w':World} {F Xc X X':Nat→Prop} {ρ0:cn} {ρ ρ':nT} {st:St} {a:Act}
theorem sG:∀(rows:List Nat) (ae:List O) (k:Nat) (l:List C),ae[k]?=some (.box l)→(ai ae rows)[k]?=some (.box l)
 | [],_,_,_,h=>h
 | q::rows,ae,k,l,h=>by
  simp only[ai]
  split
  ·rename_i o ho
   refine sG rows _ k l ?_
   by_cases hq:q=k
   ·subst hq
    rw[h] at ho
    cases ho
    rw[iI (dA.1 h).1];rfl
   ·rw[fC hq];exact h
  ·exact sG rows ae k l h
theorem Am(rows:List Nat):∀(ae:List O) (k:Nat),ae[k]?=some .fresh↔(ai ae rows)[k]?=some .fresh:=by
 induction rows with
 | nil=>intro ae k;exact zO
 | cons q rows ih=>
  intro ae k
  simp only[ai]
  split
  ·rename_i o ho
   rw[←ih]
   by_cases hq:q=k
   ·subst hq
    rw[iI (dA.1 ho).1,ho]
    cases o <;> simp[nM]
   ·rw[fC hq]
  ·exact ih ae k
theorem G2{ks:List Nat}(hn:ks.Nodup){i j k:Nat}(h1:ks[i]?=some k)(h2:ks[j]?=some k):i=j:=by
 obtain⟨hi,e1⟩:=dA.1 h1
 obtain⟨hj,e2⟩:=dA.1 h2
 rcases Nat.lt_trichotomy i j with hlt | heq | hlt
 ·exact(List.pairwise_iff_getElem.1 hn i j hi hj hlt (e1.trans e2.symm)).elim
 ·exact heq
 ·exact(List.pairwise_iff_getElem.1 hn j i hj hi hlt (e2.trans e1.symm)).elim
theorem SL{ks:List Nat}{k i:Nat}(h:IR ks k=some i):ks[i]?=some k:=by
 unfold IR at h
 rw[List.idxOf?_eq_some_iff] at h
 obtain⟨hi,h1,_⟩:=h
 rw[dG hi,h1]
theorem bu.cons{c:C}{l:List C}{y:Value}{ys:List Value}(h1:ch w X ρ c y)(h2:bu w X ρ l ys):bu w X ρ (c::l) (y::ys):=
 ⟨by simp[h2.1],fun i c' y' e1 e2=>by
  cases i with
  | zero=>simp at e1 e2;subst e1;subst e2;exact h1
  | succ i=>exact h2.2 i c' y' (by simpa using e1) (by simpa using e2)⟩
theorem bu.jt{c:C}{l:List C}{y:Value}{ys:List Value}(h:bu w X ρ (c::l) (y::ys)):ch w X ρ c y∧bu w X ρ l ys:=
 ⟨h.2 0 c y rfl rfl,by simpa using h.1,fun i c' y' e1 e2=>h.2 (i+1) c' y' (by simpa using e1) (by simpa using e2)⟩
theorem Jn{ks:List Nat}{c c':C}{y:Value}(h:Rel w0 F Xc ρ0 ρ st a w)(hX:∀b,X' b→XB st.ae ρ Xc b)(hks:∀k i,IR ks k=some i→∀v,ρ k=some v→ρ' i=some v)
 (hr:∀key∈C.rs c,∀b v,ρ key=some v→bq v=some b→¬X' b)
 (hc:ch w (XB st.ae ρ Xc) ρ c y) (hp:O9 st ks c=some c'):ch w X' ρ' c' y:=by
 unfold O9 at hp
 split at hp
 ·cases hp
  rcases hc with hc | ⟨hc,h1⟩
  ·cases hc
  ·exact .inr ⟨Rd.ie hc hX,h1⟩
 ·rename_i key
  split at hp
  ·rename_i fz e n es hob
   cases hp
   rcases hc with hc | ⟨hc,h1⟩
   ·cases hc
   ·obtain⟨v,e1,e2⟩:=h.ae key _ hob
    have hcc:ρ key=some y:=hc
    rw[hcc] at e1
    cases e1
    exact .inr ⟨JK e2 hX (fun b hb=>hr key (by simp[C.rs]) b y hcc hb),h1⟩
  ·rename_i fz e n es hob
   cases hp
   rcases hc with hc | ⟨hc,h1⟩
   ·cases hc
   ·obtain⟨v,e1,e2⟩:=h.ae key _ hob
    have hcc:ρ key=some y:=hc
    rw[hcc] at e1
    cases e1
    exact .inr ⟨UN e2 hX (fun b hb=>hr key (by simp[C.rs]) b y hcc hb),h1⟩
  ·cases hp
 ·rename_i k j
  cases hi:IR ks k with
  | none=>simp[hi] at hp
  | some i=>
   simp only[hi,fH,cC] at hp
   subst hp
   rcases hc with hc | ⟨⟨v,e1,e2⟩,h1⟩
   ·cases hc
   ·exact .inr ⟨⟨v,hks k i hi v e1,e2⟩,h1⟩
 ·rename_i f caps
  cases hs:sD (caps.map fun p=>(IR ks p.1).map fun i=>(i,p.2)) with
  | none=>simp[hs] at hp
  | some caps'=>
   simp only[hs,fH,cC] at hp
   subst hp
   obtain⟨q1,q2⟩:=yK hs
   rcases hc with hc | ⟨⟨vs,e1,e2,e3⟩,h1⟩
   ·cases hc
   ·refine .inr ⟨⟨vs,e1,e2.trans q1.symm,fun i p v hp hv=>?_⟩,h1⟩
    obtain⟨p0,g1,g2⟩:=uZ hs i p hp
    obtain⟨hh,f1,f2⟩:=e3 i p0 v g1 hv
    cases hix:IR ks p0.1 with
    | none=>simp[hix] at g2
    | some ix=>
     simp only[hix,fH,cC] at g2
     subst g2
     exact⟨hh,hks _ _ hix _ f1,f2⟩
 ·cases hp
  rcases hc with hc | ⟨hc,h1⟩
  ·cases hc
  ·exact .inr ⟨trivial,h1⟩
 ·rename_i key n lo len tg
  split at hp
  ·rename_i fz e n' es hob
   split at hp
   ·rename_i hn
    subst hn
    cases hp
    rcases hc with hc | ⟨⟨v,q1,q2⟩,h1⟩
    ·cases hc
    ·obtain⟨v',e1,e2⟩:=h.ae key _ hob
     rw[q1] at e1
     cases e1
     exact .inr ⟨O2 e2 q2 hX (fun b hb=>hr key (by simp[C.rs]) b v q1 hb),h1⟩
   ·cases hp
  ·cases hp
 ·cases hp;exact .inl rfl
 ·cases hp
def Ve(st:St)(p:Option Nat×O):Prop:=∃e n l,(p.2=.row false e n l∨p.2=.mp false e n l)∧(∀key,p.1=some key→st.ae[key]?=some p.2)∧(p.1=none→p.2=.row false e n []∧(0<n∧n<1000000000))
theorem W6{m:TypeId×Nat}{c:C}{p:Option Nat×O}(h:PA st m c=some p):Ve st p∧((∃key,c=.row key∧p.1=some key)∨(c=.t (.v (.slice none 0 0))∧p.1=none)):=by
 unfold PA at h
 split at h
 ·rename_i key
  split at h
  ·rename_i e n l hob
   split at h
   ·cases h
    exact⟨⟨e,n,l,.inl rfl,fun k hk=>by cases hk;exact hob,fun hk=>by cases hk⟩,.inl ⟨key,rfl,rfl⟩⟩
   ·cases h
  ·rename_i e n l hob
   split at h
   ·cases h
    exact⟨⟨e,n,l,.inr rfl,fun k hk=>by cases hk;exact hob,fun hk=>by cases hk⟩,.inl ⟨key,rfl,rfl⟩⟩
   ·cases h
  ·cases h
 ·split at h
  ·rename_i hn
   cases h
   exact⟨⟨_,_,[],.inl rfl,(fun k hk=>(by cases hk)),fun _=>⟨rfl,hn⟩⟩,.inr ⟨rfl,rfl⟩⟩
  ·cases h
 ·cases h
theorem PC{ks:List Nat}(h:Rel w0 F Xc ρ0 ρ st a w)(hX:∀b,X' b→XB st.ae ρ Xc b)(hks:∀k i,IR ks k=some i→∀v,ρ k=some v→ρ' i=some v):
 ∀(cs:List C) (j:Nat) (ms:List (Option (TypeId×Nat))) (cs':List C) (rws:List (Option Nat×O)) (ys:List Value),rU st ks j ms cs=some (cs',rws)→(∀key∈lU ms cs,∀b v,ρ key=some v→bq v=some b→¬X' b) →
  (∀(q:Nat) p,rws[q]?=some p→ρ' (j+q)=match p.1 with | some key=>ρ key | none=>some (.slice none 0 0))→bu w (XB st.ae ρ Xc) ρ cs ys→bu w X' ρ' cs' ys
 | [],j,ms,cs',rws,ys,hh,_,_,hy=>by
  cases ms <;> (simp only[rU,cC,yH] at hh;obtain⟨rfl,_⟩:=hh;exact⟨hy.1,fun i c y h1 _=>by simp at h1⟩)
 | c::cs,j,ms,cs',rws,ys,hh,ht,hr,hy=>by
  cases ys with
  | nil=>simp[bu] at hy
  | cons y ys=>
  obtain⟨hy1,hy2⟩:=hy.jt
  simp only[rU] at hh
  simp only[lU] at ht
  split at hh
  ·rename_i m hm
   rw[hm] at ht
   split at hh
   ·rename_i p q hp hq
    cases hh
    obtain⟨_,hpc⟩:=W6 hp
    have h0:=hr 0 p rfl
    refine .cons ?_ (PC h hX hks cs (j+1) ms.tail _ _ ys hq ht (fun i p' hi=>by have:=hr (i+1) p' (by simpa using hi);rw[←this];congr 1;omega) hy2)
    rcases hpc with⟨key,rfl,hk⟩ | ⟨rfl,hk⟩
    ·rw[hk] at h0
     rcases hy1 with hy1 | ⟨hy1,h1⟩
     ·cases hy1
     ·exact .inr ⟨h0.trans hy1,h1⟩
    ·rw[hk] at h0
     rcases hy1 with hy1 | ⟨hy1,h1⟩
     ·cases hy1
     ·have:=Rd.cq hy1
      subst this
      exact .inr ⟨h0,h1⟩
   ·cases hh
  ·rename_i hm
   rw[hm] at ht
   split at hh
   ·rename_i c' q hp hq
    cases hh
    exact .cons (Jn h hX hks (fun key hk=>ht key (fK.2 (.inl hk))) hy1 hp) (PC h hX hks cs j ms.tail _ _ ys hq (fun key hk=>ht key (fK.2 (.inr hk))) hr hy2)
   ·cases hh
theorem DJ{ks:List Nat}:∀(cs:List C) (j:Nat) (ms:List (Option (TypeId×Nat))) (cs':List C) (rws:List (Option Nat×O)),rU st ks j ms cs=some (cs',rws)→∀p∈rws,Ve st p
 | [],j,ms,cs',rws,hh,p,hp=>by
  cases ms <;> (simp only[rU,cC,yH] at hh;obtain⟨_,rfl⟩:=hh;simp at hp)
 | c::cs,j,ms,cs',rws,hh,p,hp=>by
  simp only[rU] at hh
  split at hh
  ·split at hh
   ·rename_i p' q hp' hq
    cases hh
    rcases cN.1 hp with rfl | hp
    ·exact(W6 hp').1
    ·exact DJ cs (j+1) ms.tail _ _ hq p hp
   ·cases hh
  ·split at hh
   ·rename_i c' q hp' hq
    cases hh
    exact DJ cs j ms.tail _ _ hq p hp
   ·cases hh
theorem bu.cut{X:Nat→Prop}{ρ:nT}{cs:List C}{ys zs:List Value}(h:bu w X ρ cs (ys++zs)):bu w X ρ (cs.take ys.length) ys∧bu w X ρ (cs.drop ys.length) zs:=by
 have h1:=h.take ys.length
 have h2:=h.drop ys.length
 rw[T5] at h1
 rw[List.drop_left] at h2
 exact⟨h1,h2⟩
theorem cy.cons{X:Nat→Prop}{ρ:nT}{s:S1}{l:List S1}{y:Value}{ys:List Value}(h1:ek w X ρ s y)(h2:cy w X ρ l ys):cy w X ρ (s::l) (y::ys):=
 ⟨by simp[h2.1],fun i s' y' e1 e2=>by
  cases i with
  | zero=>simp at e1 e2;subst e1;subst e2;exact h1
  | succ i=>exact h2.2 i s' y' (by simpa using e1) (by simpa using e2)⟩
theorem cy.tail{X:Nat→Prop}{ρ:nT}{s:S1}{l:List S1}{y:Value}{ys:List Value}(h:cy w X ρ (s::l) (y::ys)):ek w X ρ s y∧cy w X ρ l ys:=
 ⟨h.2 0 s y rfl rfl,by simpa using h.1,fun i s' y' e1 e2=>h.2 (i+1) s' y' (by simpa using e1) (by simpa using e2)⟩
theorem IU{ks:List Nat}:∀(cs:List C) (j:Nat) (ms:List (Option (TypeId×Nat))) (cs':List C) (rws:List (Option Nat×O)),rU st ks j ms cs=some (cs',rws)→∀key∈lU ms cs,∃o,st.ae[key]?=some o∧o.mj=true
 | [],j,ms,cs',rws,hh,key,hp=>by cases ms <;> simp[lU] at hp
 | c::cs,j,ms,cs',rws,hh,key,hp=>by
  simp only[rU] at hh
  simp only[lU] at hp
  split at hh
  ·rename_i m hm
   rw[hm] at hp
   split at hh
   ·rename_i p' q hp' hq
    cases hh
    exact IU cs (j+1) ms.tail _ _ hq key hp
   ·cases hh
  ·rename_i hm
   rw[hm] at hp
   split at hh
   ·rename_i c' q hp' hq
    cases hh
    rcases fK.1 hp with hp | hp
    ·cases c with
     | row k=>
      simp only[C.rs,OU] at hp
      subst hp
      have hp2:(match st.ae[key]? with | some (.row _ _ n es)=>some (.t (.sl n es)) | some (.mp _ _ n es)=>some (.t (.sl n es)) | _=>none:Option C)=some c':=hp'
      split at hp2
      ·rename_i fz e n es hob;exact⟨_,hob,rfl⟩
      ·rename_i fz e n es hob;exact⟨_,hob,rfl⟩
      ·cases hp2
     | cut k m lo len tg=>
      simp only[C.rs,OU] at hp
      subst hp
      have hp2:(match st.ae[key]? with | some (.row _ _ n' es)=>if n'=m then some (.t (.sl m (oC es lo len))) else none | _=>none:Option C)=some c':=hp'
      split at hp2
      ·rename_i fz e n es hob;exact⟨_,hob,rfl⟩
      ·cases hp2
     | _=>simp[C.rs] at hp
    ·exact IU cs j ms.tail _ _ hq key hp
   ·cases hh
theorem IV{ks:List Nat}:∀(cs:List C) (j:Nat) (ms:List (Option (TypeId×Nat))) (cs':List C) (rws:List (Option Nat×O)),rU st ks j ms cs=some (cs',rws)→cd cs cs'
 | [],j,ms,cs',rws,hh,i,t,hi=>by cases ms <;> (simp only[rU,cC,yH] at hh;obtain⟨rfl,_⟩:=hh;simp at hi)
 | c::cs,j,ms,cs',rws,hh,i,t,hi=>by
  simp only[rU] at hh
  split at hh
  ·split at hh
   ·rename_i p' q hp' hq
    cases hh
    cases i with
    | zero=>simp at hi
    | succ i=>simpa using IV cs (j+1) ms.tail _ _ hq i t (by simpa using hi)
   ·cases hh
  ·split at hh
   ·rename_i c' q hp' hq
    cases hh
    cases i with
    | zero=>
     simp only[AT,cC] at hi ⊢
     subst hi
     unfold O9 at hp'
     split at hp'
     ·cases hp'
     ·split at hp'
      ·cases hp'
      ·cases hp'
      ·cases hp'
     ·rename_i k j'
      cases h9:IR ks k with
      | none=>simp[h9] at hp'
      | some v=>simp[h9] at hp'
     ·rename_i f caps
      cases h9:sD (caps.map fun p=>(IR ks p.1).map fun i=>(i,p.2)) with
      | none=>simp[h9] at hp'
      | some v=>simp[h9] at hp'
     ·cases hp';rfl
     ·split at hp'
      ·split at hp' <;> cases hp'
      ·cases hp'
     ·cases hp'
     ·cases hp'
    | succ i=>simpa using IV cs j ms.tail _ _ hq i t (by simpa using hi)
   ·cases hh
theorem HY:∀(bl:List (List C)) (cs:List C),cd bl.flatten cs→∀(i:Nat) (l':List C),(jZ bl cs)[i]?=some (.box l')→cd (bl.getD i []) l'
 | [],_,_,i,l',h=>by simp[jZ] at h
 | a::bl,cs,hs,i,l',h=>by
  rw[List.flatten_cons] at hs
  cases i with
  | zero=>simp only[jZ,AT,cC,O.box.injEq] at h;subst h;exact hs.left
  | succ i=>exact HY bl _ hs.right i l' (by simpa[jZ] using h)
theorem An{km:List (Option Nat)}{c:C}{t:TypeId}(h:A2 km c=some (.self t)):c=.self t:=by
 unfold A2 at h
 split at h
 ·cases h
 ·split at h <;> cases h
 ·split at h <;> cases h
 ·rename_i f caps
  cases h9:sD (caps.map (Ot km)) with
  | none=>simp[h9] at h
  | some v=>simp[h9] at h
 ·cases h;rfl
 ·cases h
 ·cases h
theorem Ao{km:List (Option Nat)}{l l':List C}(hp:sD (l.map (A2 km))=some l'):cd l l':=fun i t hi=>by
 obtain⟨c,h1,h2⟩:=uZ hp i _ hi
 rw[h1,An h2]
theorem vS:∀(bl:List (List C)) (cs:List C),(jZ bl cs).length=bl.length
 | [],_=>rfl
 | l::bl,cs=>by simp[jZ,vS bl]
theorem W7{X:Nat→Prop}{ρ:nT}:∀(ss:List S1) (vals:List Value),cy w X ρ ss vals →
 ∃ys,bu w X ρ (ss.flatMap S1.list) ys∧∀(X':Nat→Prop) (ρ':nT) (cs':List C) (zs:List Value),bu w X' ρ' cs' (ys++zs)→cy w X' ρ' (zX ss cs') vals
 | [],vals,h=>by
  have hv:vals=[]:=vJ h.1
  subst hv
  exact⟨[],⟨rfl,fun i c y h1 _=>by simp at h1⟩,fun X' ρ' cs' zs _=>⟨rfl,fun i s y h1 _=>by simp[zX] at h1⟩⟩
 | s::ss,vals,h=>by
  cases vals with
  | nil=>simp[cy] at h
  | cons v vals=>
  obtain⟨h1,h2⟩:=h.tail
  obtain⟨ys,q1,q2⟩:=W7 ss vals h2
  cases s with
  | c c=>
   refine⟨v::ys,by rw[II];exact(bu.one (c:=c) h1).append q1,fun X' ρ' cs' zs hcs=>?_⟩
   cases cs' with
   | nil=>simp[bu] at hcs
   | cons c' cs'=>
    obtain⟨r1,r2⟩:=hcs.jt
    exact .cons r1 (q2 X' ρ' cs' zs r2)
  | agg l=>
   obtain⟨cs,rfl,hl⟩:=h1
   refine⟨cs.toList++ys,by rw[II];exact hl.append q1,fun X' ρ' cs' zs hcs=>?_⟩
   rw[JD] at hcs
   obtain⟨r1,r2⟩:=hcs.cut
   rw[hl.1] at r1 r2
   exact .cons ⟨cs,rfl,r1⟩ (q2 X' ρ' _ zs r2)
theorem W8{X:Nat→Prop}{ρ:nT}{Q:Nat→List Value→Prop}:∀(bl:List (List C)) (j:Nat),(∀(i:Nat) l,bl[i]?=some l→∃zs,bu w X ρ l zs∧Q (j+i) zs) →
 ∃ys,bu w X ρ bl.flatten ys∧∀(X':Nat→Prop) (ρ':nT) (cs':List C),bu w X' ρ' cs' ys→(jZ bl cs').length=bl.length∧∀(i:Nat) o,(jZ bl cs')[i]?=some o→∃l' zs,o=.box l'∧Q (j+i) zs∧bu w X' ρ' l' zs
 | [],j,h=>⟨[],⟨rfl,fun i c y h1 _=>by simp at h1⟩,fun X' ρ' cs' _=>⟨rfl,fun i o h=>by simp[jZ] at h⟩⟩
 | l::bl,j,h=>by
  obtain⟨zs,hz1,hz2⟩:=h 0 l rfl
  obtain⟨ys,q1,q2⟩:=W8 (Q:=Q) bl (j+1) (fun i l' hi=>by obtain⟨zs,e1,e2⟩:=h (i+1) l' (by simpa using hi);exact⟨zs,e1,by rw[show j+1+i=j+(i+1) by omega];exact e2⟩)
  refine⟨zs++ys,by rw[List.flatten_cons];exact hz1.append q1,fun X' ρ' cs' hcs=>?_⟩
  obtain⟨r1,r2⟩:=hcs.cut
  rw[hz1.1] at r1 r2
  obtain⟨p1,p2⟩:=q2 X' ρ' _ r2
  refine⟨by simp[jZ,p1],fun i o ho=>?_⟩
  cases i with
  | zero=>simp only[jZ,AT,cC] at ho;subst ho;exact⟨_,zs,rfl,hz2,r1⟩
  | succ i=>
   obtain⟨l',zs',e1,e2,e3⟩:=p2 i o (by simpa[jZ] using ho)
   exact⟨l',zs',e1,by rw[show j+(i+1)=j+1+i by omega];exact e2,e3⟩
def Jo(km:List (Option Nat))(ρ' ρ'':nT):Prop:=∀(i:Nat) m,km[i]?=some m→∀v,ρ' i=some v→match m with | some k=>ρ'' k=some v | none=>v=.slice none 0 0
theorem W9{km:List (Option Nat)}{ρ'':nT}{c c':C}{y:Value}(hX:∀b,X' b→X b)(hρ:Jo km ρ' ρ'')(hc:ch w X ρ' c y)(hp:A2 km c=some c'):ch w X' ρ'' c' y:=by
 unfold A2 at hp
 split at hp
 ·cases hp
  rcases hc with hc | ⟨hc,h1⟩
  ·cases hc
  ·exact .inr ⟨Rd.ie hc hX,h1⟩
 ·rename_i i j
  split at hp
  ·rename_i k hk
   cases hp
   rcases hc with hc | ⟨⟨v,e1,e2⟩,h1⟩
   ·cases hc
   ·exact .inr ⟨⟨v,hρ i _ hk v e1,e2⟩,h1⟩
  ·cases hp
 ·rename_i i
  split at hp
  ·rename_i k hk
   cases hp
   rcases hc with hc | ⟨hc,h1⟩
   ·cases hc
   ·exact .inr ⟨hρ i _ hk y hc,h1⟩
  ·rename_i hk
   cases hp
   rcases hc with hc | ⟨hc,h1⟩
   ·cases hc
   ·have:=hρ i _ hk y hc
    simp only at this
    subst this
    exact .inr ⟨.v _,h1⟩
  ·cases hp
 ·rename_i f caps
  cases hs:sD (caps.map (Ot km)) with
  | none=>simp[hs] at hp
  | some caps'=>
   simp only[hs,fH,cC] at hp
   subst hp
   obtain⟨q1,q2⟩:=yK hs
   rcases hc with hc | ⟨⟨vs,e1,e2,e3⟩,h1⟩
   ·cases hc
   ·refine .inr ⟨⟨vs,e1,e2.trans q1.symm,fun i p v hp hv=>?_⟩,h1⟩
    obtain⟨p0,g1,g2⟩:=uZ hs i p hp
    obtain⟨hh,f1,f2⟩:=e3 i p0 v g1 hv
    unfold Ot at g2
    split at g2
    ·rename_i k hk
     cases g2
     exact⟨hh,hρ _ _ hk hh f1,f2⟩
    ·cases g2
 ·cases hp
  rcases hc with hc | ⟨hc,h1⟩
  ·cases hc
  ·exact .inr ⟨trivial,h1⟩
 ·cases hp;exact .inl rfl
 ·cases hp
theorem XA{km:List (Option Nat)}{ρ'':nT}{l l':List C}{ys:List Value}(hX:∀b,X' b→X b)(hρ:Jo km ρ' ρ'')(hc:bu w X ρ' l ys)(hp:sD (l.map (A2 km))=some l'):bu w X' ρ'' l' ys:=by
 obtain⟨q1,q2⟩:=yK hp
 refine⟨hc.1.trans q1.symm,fun i c y h1 h2=>?_⟩
 obtain⟨c0,g1,g2⟩:=uZ hp i c h1
 exact W9 hX hρ (hc.2 i c0 y g1 h2) g2
theorem XC{km:List (Option Nat)}{ρ'':nT}{s s':S1}{y:Value}(hX:∀b,X' b→X b)(hρ:Jo km ρ' ρ'')(hc:ek w X ρ' s y)(hp:JN km s=some s'):ek w X' ρ'' s' y:=by
 cases s with
 | c c=>
  simp only[JN] at hp
  cases hq:A2 km c with
  | none=>simp[hq] at hp
  | some c'=>
   simp only[hq,fH,cC] at hp
   subst hp
   exact W9 hX hρ hc hq
 | agg l=>
  simp only[JN] at hp
  cases hq:sD (l.map (A2 km)) with
  | none=>simp[hq] at hp
  | some l'=>
   simp only[hq,fH,cC] at hp
   subst hp
   obtain⟨cs,rfl,hl⟩:=hc
   exact⟨cs,rfl,XA hX hρ hl hq⟩
theorem Sp{km:List (Option Nat)}{ρ'':nT}{rs rs':List S1}{v:Value}(hX:∀b,X' b→X b)(hρ:Jo km ρ' ρ'')(h:ew w X ρ' rs v)(hp:sD (rs.map (JN km))=some rs'):
 ay w X' ρ'' (JM rs') v:=by
 obtain⟨q1,q2⟩:=yK hp
 have key:∀{vs:List Value},cy w X ρ' rs vs→cy w X' ρ'' rs' vs:=fun hl=>⟨hl.1.trans q1.symm,fun i s y h1 h2=>by
  obtain⟨s0,g1,g2⟩:=uZ hp i s h1
  exact XC hX hρ (hl.2 i s0 y g1 h2) g2⟩
 match rs,rs',q1 with
 | [s],[s'],_=>
  obtain⟨s0,g1,g2⟩:=uZ hp 0 s' rfl
  simp at g1
  subst g1
  exact XC hX hρ h g2
 | [],[],_=>obtain⟨vs,e,hl⟩:=h;exact⟨vs,e,key hl⟩
 | s1::s2::l,s1'::s2'::l',_=>obtain⟨vs,e,hl⟩:=h;exact⟨vs,e,key hl⟩
end
section
variable {R:Type} {P:Program} {w0 w:World} {F Xc:Nat→Prop} {ρ0:cn} {ρ:nT} {st:St} {a:Act} {r:R}
theorem Dc{X X':Nat→Prop}{w w':World}{ρ' ρ'':nT}{s:S1}{y:Value}(h:ek w X ρ' s y)(hs:s.list.all FJ=true):ek w' X' ρ'' s y:=by
 have key:∀(c:C) (y:Value),FJ c=true→ch w X ρ' c y→ch w' X' ρ'' c y:=by
  intro c y hc hr
  unfold FJ at hc
  split at hc
  ·rcases hr with hr | ⟨hr,h1⟩
   ·cases hr
   ·have:=Rd.cq hr
    subst this
    exact .inr ⟨.v _,h1⟩
  ·cases hc
 cases s with
 | c c=>exact key c y (by simpa[S1.list] using hs) h
 | agg l=>
  obtain⟨cs,e,hl⟩:=h
  exact⟨cs,e,hl.1,fun i c y h1 h2=>key c y (jF.1 hs c (mS h1)) (hl.2 i c y h1 h2)⟩
theorem Js{X X':Nat→Prop}{w w':World}{ρ' ρ'':nT}{rs:List S1}{v:Value}(h:ew w X ρ' rs v)(hs:rs.all (fun s=>s.list.all FJ)=true):ay w' X' ρ'' (JM rs) v:=by
 have key:∀{vs:List Value},cy w X ρ' rs vs→cy w' X' ρ'' rs vs:=fun hl=>⟨hl.1,fun i s y h1 h2=>Dc (hl.2 i s y h1 h2) (jF.1 hs s (mS h1))⟩
 match rs with
 | [s]=>exact Dc (show ek w X ρ' s v from h) (by simpa using hs)
 | []=>obtain⟨vs,e1,hl⟩:=h;exact⟨vs,e1,key hl⟩
 | s1::s2::l=>obtain⟨vs,e1,hl⟩:=h;exact⟨vs,e1,key hl⟩
theorem M2:∀(rows:List Nat) (ae:List O),(ai ae rows).length=ae.length
 | [],_=>rfl
 | q::rows,ae=>by simp only[ai];split <;> simp[M2 rows]
theorem DK:∀(rows:List Nat) (ae:List O) (j:Nat),ae[j]?=some .dead→(ai ae rows)[j]?=some .dead
 | [],_,_,h=>h
 | q::rows,ae,j,h=>by
  simp only[ai]
  split
  ·rename_i o ho
   refine DK rows _ j ?_
   by_cases hq:q=j
   ·subst hq;rw[h] at ho;cases ho;rw[iI (dA.1 h).1];rfl
   ·rw[fC hq];exact h
  ·exact DK rows ae j h
theorem DL:∀(rows:List Nat) (ae:List O) (j:Nat) (l:List C),ae[j]?=some (.cu l)→(ai ae rows)[j]?=some (.cu l)
 | [],_,_,_,h=>h
 | q::rows,ae,j,l,h=>by
  simp only[ai]
  split
  ·rename_i o ho
   refine DL rows _ j l ?_
   by_cases hq:q=j
   ·subst hq;rw[h] at ho;cases ho;rw[iI (dA.1 h).1];rfl
   ·rw[fC hq];exact h
  ·exact DL rows ae j l h
theorem IX:∀(rows:List Nat) (ae:List O) (j:Nat) (hole:Option Nat) (e e2:TypeId) (n:Nat) (l:List (List T)),ae[j]?=some (.rr hole e e2 n l)→(ai ae rows)[j]?=some (.rr hole e e2 n l)
 | [],_,_,_,_,_,_,_,h=>h
 | q::rows,ae,j,hole,e,e2,n,l,h=>by
  simp only[ai]
  split
  ·rename_i o ho
   refine IX rows _ j hole e e2 n l ?_
   by_cases hq:q=j
   ·subst hq;rw[h] at ho;cases ho;rw[iI (dA.1 h).1];rfl
   ·rw[fC hq];exact h
  ·exact IX rows ae j hole e e2 n l h
theorem FL:∀(rows:List Nat) (ae:List O) (j:Nat) (l:Nat),ae[j]?=some (.fwd l)→(ai ae rows)[j]?=some (.fwd l)
 | [],_,_,_,h=>h
 | q::rows,ae,j,l,h=>by
  simp only[ai]
  split
  ·rename_i o ho
   refine FL rows _ j l ?_
   by_cases hq:q=j
   ·subst hq;rw[h] at ho;cases ho;rw[iI (dA.1 h).1];rfl
   ·rw[fC hq];exact h
  ·exact FL rows ae j l h
theorem yA:∀(rows:List Nat) (ae:List O) (j:Nat),j∉rows→(ai ae rows)[j]?=ae[j]?
 | [],_,_,_=>rfl
 | q::rows,ae,j,h=>by
  simp only[cN,EK] at h
  simp only[ai]
  split
  ·rw[yA rows _ j h.2,fC (fun e=>h.1 e.symm)]
  ·exact yA rows ae j h.2
theorem XE{ae:List O}{rows:List Nat}{j b:Nat}(h:Has (ai ae rows) ρ j b):Has ae ρ j b:=by
 obtain⟨o,v,h1,h2,h3,h4⟩:=h
 have hlt:j<ae.length:=by rw[←M2 rows];exact(dA.1 h1).1
 cases ho:ae[j]'hlt with
 | box l=>
  have ho':ae[j]?=some (.box l):=by rw[dG hlt,ho]
  rw[sG _ _ _ _ ho'] at h1
  cases h1
  exact⟨_,v,ho',rfl,h3,h4⟩
 | row fz e n l=>
  have ho':ae[j]?=some (.row fz e n l):=by rw[dG hlt,ho]
  obtain⟨fz',g1,g2⟩:=sE rows _ _ _ _ _ _ ho'
  rw[g1] at h1
  cases h1
  cases fz with
  | false=>exact⟨_,v,ho',rfl,h3,h4⟩
  | true=>rw[g2 (.inl rfl)] at h2;cases h2
 | mp fz e n l=>
  have ho':ae[j]?=some (.mp fz e n l):=by rw[dG hlt,ho]
  obtain⟨fz',g1,g2⟩:=xE rows _ _ _ _ _ _ ho'
  rw[g1] at h1
  cases h1
  cases fz with
  | false=>exact⟨_,v,ho',rfl,h3,h4⟩
  | true=>rw[g2 (.inl rfl)] at h2;cases h2
 | cu l=>
  have ho':ae[j]?=some (.cu l):=by rw[dG hlt,ho]
  rw[DL _ _ _ _ ho'] at h1
  cases h1;cases h2
 | rr hole e e2 n l=>
  have ho':ae[j]?=some (.rr hole e e2 n l):=by rw[dG hlt,ho]
  rw[IX _ _ _ _ _ _ _ _ ho'] at h1
  cases h1
  exact⟨_,v,ho',rfl,h3,h4⟩
 | fwd l=>
  have ho':ae[j]?=some (.fwd l):=by rw[dG hlt,ho]
  rw[FL _ _ _ _ ho'] at h1
  cases h1;cases h2
 | dead=>
  have ho':ae[j]?=some .dead:=by rw[dG hlt,ho]
  rw[DK _ _ _ ho'] at h1
  cases h1;cases h2
 | fresh=>
  have ho':ae[j]?=some .fresh:=by rw[dG hlt,ho]
  rw[(Am _ _ _).1 ho'] at h1
  cases h1;cases h2
theorem uP:∀(km:List (Option Nat)) (po:List O) (ae:List O) (j:Nat),some j∉km→(IS ae km po)[j]?=ae[j]?
 | [],po,ae,j,_=>by cases po <;> rfl
 | some k::km,[],ae,j,_=>rfl
 | none::km,[],ae,j,_=>rfl
 | some k::km,o::po,ae,j,h=>by
  simp only[IS]
  rw[uP km po _ j (fun hm=>h (by simp[hm])),fC (fun e=>h (by simp[e]))]
 | none::km,o::po,ae,j,h=>by
  simp only[IS]
  exact uP km po _ j (fun hm=>h (by simp[hm]))
theorem UX:∀(km:List (Option Nat)) (po:List O) (ae:List O) (i k:Nat) (o:O),(km.filterMap id).Nodup→km[i]?=some (some k)→po[i]?=some o→k<ae.length→(IS ae km po)[k]?=some o
 | [],po,ae,i,k,o,_,h,_,_=>by simp at h
 | m::km,[],ae,i,k,o,_,_,h,_=>by simp at h
 | none::km,o'::po,ae,i,k,o,hn,h1,h2,hl=>by
  simp only[IS]
  cases i with
  | zero=>simp at h1
  | succ i=>exact UX km po ae i k o (by simpa using hn) (by simpa using h1) (by simpa using h2) hl
 | some q::km,o'::po,ae,i,k,o,hn,h1,h2,hl=>by
  simp only[IS]
  simp only[K8,K9] at hn
  obtain⟨hq,hn'⟩:=cY.1 hn
  cases i with
  | zero=>
   simp at h1 h2
   subst h1;subst h2
   rw[uP km po _ q (fun hm=>hq (MM.2 ⟨some q,hm,rfl⟩)),iI hl]
  | succ i=>exact UX km po _ i k o hn' (by simpa using h1) (by simpa using h2) (by simpa using hl)
theorem Ss{km:List (Option Nat)}(hn:(km.filterMap id).Nodup){i j k:Nat}(h1:km[i]?=some (some k))(h2:km[j]?=some (some k)):i=j:=by
 induction km generalizing i j with
 | nil=>simp at h1
 | cons s rs ih=>
  have key:∀q,rs[q]?=some (some k)→s=some k→False:=fun q hq e=>by
   subst e
   simp only[K8,K9] at hn
   exact(cY.1 hn).1 (MM.2 ⟨some k,mS hq,rfl⟩)
  have hnd:(rs.filterMap id).Nodup:=by
   cases s with
   | none=>simpa using hn
   | some v=>simp only[K8,K9] at hn;exact(cY.1 hn).2
  cases i with
  | zero=>
   cases j with
   | zero=>rfl
   | succ j=>simp at h1 h2;exact(key j h2 h1).elim
  | succ i=>
   cases j with
   | zero=>simp at h1 h2;exact(key i h1 h2).elim
   | succ j=>simp at h1 h2;rw[ih hnd h1 h2]
theorem LQ{st:St}{dst:Option Nat}{av:Nat}{nk:List Nat}(h:IT st dst av=some nk):nk.length=av∧∀k∈nk,st.ae[k]?=some .fresh∧st.np≤k:=by
 unfold IT at h
 split at h
 ·cases h;exact⟨rfl,by simp⟩
 ·rename_i n d
  dsimp only at h
  split at h
  ·rename_i hl
   cases h
   refine⟨hl,fun k hk=>?_⟩
   have hk1:=IE hk
   obtain⟨hk2,hk3⟩:=CO.1 hk1
   obtain⟨j,_,rfl⟩:=lE.1 hk2
   refine⟨?_,HQ _ _⟩
   unfold uG at hk3
   split at hk3
   ·rename_i ho;exact ho
   ·cases hk3
  ·split at h
   ·rename_i hl
    cases h
    refine⟨hl,fun k hk=>?_⟩
    have hk1:=IE hk
    obtain⟨hk2,hk3⟩:=CO.1 hk1
    simp only[cM,cK] at hk3
    refine⟨?_,hk3.1⟩
    have hk4:=hk3.2
    unfold uG at hk4
    split at hk4
    ·rename_i ho;exact ho
    ·cases hk4
   ·cases h
 ·cases h
theorem Dd:∀l:List Nat,l.filterMap (id ∘ some)=l
 | []=>rfl
 | k::l=>by rw[K8];simp only[Function.comp,id];exact fL _ (Dd l)
theorem SM{ks:List Nat}{rws:List (Option Nat×O)}(h1:ks.Nodup)(h2:(rws.filterMap (·.1)).Nodup)(h3:∀key∈ks,key∈rws.filterMap (·.1)→False):((ks.map some++rws.map (·.1)).filterMap id).Nodup:=by
 rw[List.filterMap_append,ZY,ZY]
 have e1:ks.filterMap (id ∘ some)=ks:=by induction ks with | nil=>rfl | cons k l ih=>simp
 have e2:rws.filterMap (id ∘ (·.1))=rws.filterMap (·.1):=rfl
 rw[e1,e2]
 exact rT.2 ⟨h1,h2,fun a ha b hb e=>h3 a ha (e▸hb)⟩
def IY(ρ:nT)(ks:List Nat)(rws:List (Option Nat×O)):nT:=fun i=>match (ks.map some++rws.map (·.1))[i]? with
 | some (some k)=>ρ k
 | some none=>some nilN
 | none=>none
 where nilN:Value:=.slice none 0 0
theorem PG{f:FuncId}{A:Callee}{dst:Option Nat}{ds:List D}{vals:List Value}{k:St→D→Option R}(hG:Good P w0 F)(hA:A.OK P f)(h:Rel w0 F Xc ρ0 ρ st a w)(hlen:ds.length=vals.length)
 (hd:∀(i:Nat) d v,ds[i]?=some d→vals[i]?=some v→ay w (XB st.ae ρ Xc) ρ d v) (hk:zP A st dst ds k=some r):
 Calls P f vals.toArray w fun e w'=>∃v ρ' st' d,e=.returned v∧Rel w0 F Xc ρ0 ρ' st' a w'∧ay w' (XB st'.ae ρ' Xc) ρ' d v∧k st' d=some r:=by
 obtain⟨hA,hAi,_⟩:=hA
 unfold zP at hk
 split at hk
 ·rename_i I hI
  exact hAi I hI dst ds vals k hG h hlen hd hk
 unfold A3 at hk
 split at hk
 ·cases hk
 rename_i ss hss
 have hds:=LP hss
 split at hk
 ·cases hk
 rename_i bl hbl
 split at hk
 ·cases hk
 rename_i cs rws hhand
 dsimp only at hk
 split at hk
 case isFalse=>cases hk
 rename_i hcond
 simp only[cM,cK,jF] at hcond
 obtain⟨hrk,hdis⟩:=hcond
 obtain⟨rs,po',hk1,hcon⟩:=hA _ _ _ r hk
 clear hk
 generalize hks:yL A.deep st.ae ss=ks at *
 generalize htk:lU A.rows (ss.flatMap S1.list++bl.flatten)=tk at *
 have hks_nd:ks.Nodup:=hks▸W5 _ _ ss
 obtain⟨hbl1,hbl2⟩:=yK hbl
 have hbox:∀(i:Nat) l,bl[i]?=some l→∃kk,ks[i]?=some kk∧st.ae[kk]?=some (.box l):=fun i l hi=>by
  obtain⟨kk,g1,g2⟩:=uZ hbl i l hi
  unfold CT at g2
  split at g2
  ·cases g2;exact⟨kk,g1,by assumption⟩
  ·cases g2
 have hf:=h.freeze tk
 have hsl:cy w (XB st.ae ρ Xc) ρ ss vals:=⟨by rw[←hlen,hds,cS],fun i s y h1 h2=>hd i (.s s) y (by rw[hds,eW,h1];rfl) h2⟩
 obtain⟨ys1,hy1,hback1⟩:=W7 ss vals hsl
 obtain⟨ys2,hy2,hback2⟩:=W8 (w:=w) (X:=XB st.ae ρ Xc) (ρ:=ρ) (Q:=fun i zs=>∃kk v g ys ty,ks[i]?=some kk∧ρ kk=some v∧v=.pointer (some ⟨g,0,none⟩)∧w.heap[g]?=some (.cells ys ty (0,0))∧cz (bl.getD i []) g ys ty∧ys.toList=zs) bl 0 (fun i l hi=>by
  obtain⟨kk,g1,g2⟩:=hbox i l hi
  obtain⟨v,e1,g,ys,ty,e2,e3,e0,e4⟩:=h.ae kk _ g2
  exact⟨ys.toList,e4,kk,v,g,ys,ty,by rw[OO];exact g1,e1,e2,e3,by rw[OO,jY,hi];exact e0,rfl⟩)
 have hrows:=DJ _ _ _ _ _ hhand
 generalize hpo:jZ bl (cs.drop (ss.flatMap S1.list).length)++rws.map (·.2)=po at *
 let km0:List (Option Nat):=ks.map some++rws.map (·.1)
 have hkm0:km0=ks.map some++rws.map (·.1):=rfl
 have hρP:∀(i:Nat) m,km0[i]?=some m→IY ρ ks rws i=match m with | some k=>ρ k | none=>some (.slice none 0 0):=fun i m hm=>by
  unfold IY
  rw[←hkm0,hm]
  cases m <;> rfl
 have hidx:∀k i,IR ks k=some i→∀v,ρ k=some v→IY ρ ks rws i=some v:=fun k i hi v hv=>by
  have h1:=SL hi
  have hil:i<ks.length:=(dA.1 h1).1
  rw[hρP i (some k) (by rw[hkm0,AR (by simpa using hil),eW,h1];rfl)]
  exact hv
 have hrwP:∀(q:Nat) p,rws[q]?=some p→IY ρ ks rws (ks.length+q)=match p.1 with | some key=>ρ key | none=>some (.slice none 0 0):=fun q p hp=>by
  exact hρP (ks.length+q) p.1 (by rw[hkm0,HS (by simp)];simp[hp])
 have hXsub:∀b,XB (ai st.ae tk) ρ Xc b→XB st.ae ρ Xc b:=fun b hb=>by
  rcases hb with⟨j,hj⟩ | hb
  ·exact .inl ⟨j,XE hj⟩
  ·exact .inr hb
 have hnb:bl.length=ks.length:=hbl1
 have hpoB:∀i,i<ks.length→po[i]?=(jZ bl (cs.drop (ss.flatMap S1.list).length))[i]?:=fun i hi=>by
  rw[←hpo,AR (by rw[vS];omega)]
 have hpoR:∀q,po[ks.length+q]?=(rws[q]?).map (·.2):=fun q=>by
  rw[←hpo,HS (by rw[vS];omega),vS,hnb,TV,eW]
 have hrowF:∀(q:Nat) p,rws[q]?=some p→∀key,p.1=some key→(ai st.ae tk)[key]?=some p.2:=fun q p hp key hk=>by
  obtain⟨e,n,l,h1,h2,_⟩:=hrows p (mS hp)
  rw[yA tk _ key (fun hm=>?_)]
  ·exact h2 key hk
  ·have:=hdis key (MM.2 ⟨p,mS hp,hk⟩)
   simp[hm] at this
 have hHpo:∀i b,Has po (IY ρ ks rws) i b→∃k,km0[i]?=some (some k)∧Has (ai st.ae tk) ρ k b:=fun i b ⟨o,v,h1,h2,h3,h4⟩=>by
  by_cases hi:i<ks.length
  ·have hkk:ks[i]?=some ks[i]:=dG hi
   have hkm:km0[i]?=some (some ks[i]):=by rw[hkm0,AR (by simpa using hi),eW,hkk];rfl
   have hbi:i<bl.length:=by omega
   obtain⟨kk,g1,g2⟩:=hbox i _ (dG hbi)
   rw[hkk] at g1
   cases g1
   rw[hρP i _ hkm] at h3
   exact⟨ks[i],hkm,_,v,sG _ _ _ _ g2,rfl,h3,h4⟩
  ·obtain⟨q,rfl⟩:∃q,i=ks.length+q:=⟨i-ks.length,by omega⟩
   rw[hpoR q] at h1
   cases hp:rws[q]? with
   | none=>simp[hp] at h1
   | some p=>
    rw[hrwP q p hp] at h3
    simp only[hp,fH,cC] at h1
    have hkm:km0[ks.length+q]?=some p.1:=by rw[hkm0,HS (by simp)];simp[hp]
    cases hp1:p.1 with
    | none=>rw[hp1] at h3;simp only[cC] at h3;subst h3;have h5:=h4.one rfl;simp[bq] at h5
    | some key=>
     rw[hp1] at h3 hkm
     refine⟨key,hkm,p.2,v,hrowF q p hp key hp1,?_,h3,h4⟩
     rw[h1];exact h2
 have hXs:∀b,XB po (IY ρ ks rws) (fun b=>XB (ai st.ae tk) ρ Xc b∧¬BM po (IY ρ ks rws) b) b→XB (ai st.ae tk) ρ Xc b:=fun b hb=>by
  rcases hb with⟨i,hi⟩ | hb
  ·obtain⟨kk,_,hh⟩:=hHpo i b hi
   exact .inl ⟨kk,hh⟩
  ·exact hb.1
 have hcells:bu w (XB po (IY ρ ks rws) (fun b=>XB (ai st.ae tk) ρ Xc b∧¬BM po (IY ρ ks rws) b)) (IY ρ ks rws) cs (ys1++ys2):=by
  refine PC h (fun b hb=>hXsub b (hXs b hb)) hidx _ _ _ _ _ _ hhand (fun key hkey b v hv hb hx=>?_) (fun q p hp=>hrwP q p hp) (hy1.append hy2)
  obtain⟨o,hob,hro⟩:=IU _ _ _ _ _ hhand key hkey
  obtain⟨o',f1,f2⟩:=Ag hob hro (htk▸hkey)
  have hk':=hf.ae key _ f1
  cases o' with
  | row fz e n l=>
   obtain⟨v',e1,e2⟩:=hk'
   rw[hv] at e1
   cases e1
   exact e2.frozen f2 b hb (hXs b hx)
  | mp fz e n l=>
   obtain⟨v',e1,e2⟩:=hk'
   rw[hv] at e1
   cases e1
   exact e2.frozen f2 b hb (hXs b hx)
  | box l=>cases f2
  | cu l=>cases f2
  | rr hole e e2 n l=>cases f2
  | fwd l=>cases f2
  | dead=>cases f2
  | fresh=>cases f2
 have hlen1:ys1.length=(ss.flatMap S1.list).length:=hy1.1
 have hcs2:=hcells.cut
 obtain⟨hc1,hc2⟩:=hcs2
 rw[hlen1] at hc1 hc2
 obtain⟨hbl3,hboxP⟩:=hback2 _ _ _ hc2
 have hcall:=hcon w (fun b=>XB (ai st.ae tk) ρ Xc b∧¬BM po (IY ρ ks rws) b) (IY ρ ks rws) vals (fun i o ho=>by
  by_cases hi:i<ks.length
  ·rw[hpoB i hi] at ho
   obtain⟨l',zs,rfl,⟨kk,v,g,ys,ty,e1,e2,e3,e4,e0,e5⟩,e6⟩:=hboxP i o ho
   rw[OO] at e1 e0
   refine⟨v,?_,g,ys,ty,e3,e4,(HY bl _ (IV _ _ _ _ _ hhand).right i l' ho).head e0,by rw[e5];exact e6⟩
   rw[hρP i (some kk) (by rw[hkm0,AR (by simpa using hi),eW,e1];rfl)]
   exact e2
  ·obtain⟨q,rfl⟩:∃q,i=ks.length+q:=⟨i-ks.length,by omega⟩
   rw[hpoR q] at ho
   cases hp:rws[q]? with
   | none=>simp[hp] at ho
   | some p=>
    simp only[hp,fH,cC] at ho
    subst ho
    obtain⟨e,n,l,h1,h2,h3⟩:=hrows p (mS hp)
    have hr:=hrwP q p hp
    cases hp1:p.1 with
    | none=>
     rw[hp1] at hr
     obtain⟨h1,hn⟩:=h3 hp1
     rw[h1]
     exact⟨_,hr,hn,.nil n,⟨[],rowAt.nil w e n,⟨rfl,fun i t y h1 _=>by simp[flat] at h1⟩⟩,fun hc=>by cases hc⟩
    | some key=>
     rw[hp1] at hr
     have hF:=hrowF q p hp key hp1
     rcases h1 with h1 | h1
     ·rw[h1] at hF ⊢
      obtain⟨v,f1,f2⟩:=hf.ae key _ hF
      exact⟨v,hr.trans f1,f2.1,f2.2.1,by
       obtain⟨xs,f3,f4⟩:=f2.2.2.1
       exact⟨xs,f3,f4.step (.refl (fun _=>False) w) (fun _ hb=>False.elim hb) (fun b hb=>.inl (hXs b hb))⟩,fun hc=>by cases hc⟩
     ·rw[h1] at hF ⊢
      obtain⟨v,f1,q1,g,es,clock,q2,q3,q4,q5⟩:=hf.ae key _ hF
      exact⟨v,hr.trans f1,q1,g,es,clock,q2,q3,q4.step (.refl (fun _=>False) w) (fun _ hb=>False.elim hb) (fun b hb=>.inl (hXs b hb)),fun hc=>by cases hc⟩)
  (fun i j b hi hj=>by
   obtain⟨k1,g1,h1⟩:=hHpo i b hi
   obtain⟨k2,g2,h2⟩:=hHpo j b hj
   have:=hf.sep k1 k2 b h1 h2
   subst this
   exact Ss (SM hks_nd hrk (fun key hk hk2=>by
    obtain⟨p,hp,hpk⟩:=MM.1 hk2
    obtain⟨i,hi,hie⟩:=CN hk
    have hbi:i<bl.length:=by omega
    obtain⟨kk,g1,g2⟩:=hbox i _ (dG hbi)
    rw[dG hi,hie] at g1
    cases g1
    obtain⟨e,n,l,q1,q2,_⟩:=hrows p hp
    have:=q2 key hpk
    rcases q1 with q1 | q1 <;> (rw[g2,q1] at this;cases this))) g1 g2)
  (fun b hb=>by
   rcases hb.1 with hm | hx
   ·exact hf.lt hm
   ·exact KY (hf.jo b hx) hf.frame.size)
  (fun b hb hx=>hx.2 hb)
  (hG.call h.frame fun b ⟨i,hi⟩=>by
   obtain⟨kk,_,hh⟩:=hHpo i b hi
   exact hf.own b ⟨kk,hh⟩)
  (hback1 _ _ _ _ hcells)
 refine hcall.mono fun e w' ⟨v,ρ',he,hs,hρ',hle,hok,hsep,hnew,hres⟩=>?_
 split at hk1
 ·rename_i hb
  simp only[cM,K7] at hb
  obtain⟨⟨hb1,hb2⟩,hb3⟩:=hb
  have hno:∀b,¬BM po (IY ρ ks rws) b:=fun b ⟨i,o,_,h1,_⟩=>by rw[hb1] at h1;simp at h1
  exact⟨v,ρ,st,JM rs,he,h.world (hs.mono fun b hb _=>(hno b hb).elim),Js hres hb3,hk1⟩
 ·split at hk1
  ·cases hk1
  rename_i nk hnk
  split at hk1
  case isFalse=>cases hk1
  rename_i hcond2
  simp only[cM,cK] at hcond2
  obtain⟨hnkd,_⟩:=hcond2
  split at hk1
  case h_2=>cases hk1
  rename_i po2 rs' hpo2 hrs'
  obtain⟨hnl,hnf⟩:=LQ hnk
  obtain⟨hp2l,hp2⟩:=yK hpo2
  have hpl:po.length=km0.length:=by
   rw[←hpo,hkm0,tT,vS,tT,cS,cS,cS,hnb]
  have hkml:(km0++nk.map some).length=po'.length:=by rw[tT,cS,hnl];omega
  let ρ'':nT:=fun j=>match IR nk j with | some i=>ρ' (po.length+i) | none=>ρ j
  have hρn:∀(i k:Nat),nk[i]?=some k→ρ'' k=ρ' (po.length+i):=fun i k hi=>by
   cases hq:IR nk k with
   | none=>exact((List.idxOf?_eq_none_iff.1 hq) (mS hi)).elim
   | some q=>
    have:=G2 hnkd (SL hq) hi
    subst this
    simp only[ρ'',hq]
  have hρo:∀k,k∉nk→ρ'' k=ρ k:=fun k hk=>by
   have:IR nk k=none:=List.idxOf?_eq_none_iff.2 hk
   simp only[ρ'',this]
  have hkmF:∀(i k:Nat),km0[i]?=some (some k)→∃o,(ai st.ae tk)[k]?=some o∧o≠.fresh:=fun i k hi=>by
   rw[hkm0] at hi
   by_cases hik:i<ks.length
   ·rw[AR (by simpa using hik),eW] at hi
    have hkk:ks[i]?=some k:=by
     cases hq:ks[i]? with
     | none=>simp[hq] at hi
     | some k'=>simp only[hq,fH,cC] at hi;rw[hi]
    obtain⟨kk,g1,g2⟩:=hbox i _ (dG (show i<bl.length by omega))
    rw[hkk] at g1
    cases g1
    exact⟨_,sG _ _ _ _ g2,fun e=>by cases e⟩
   ·rw[HS (by simpa using Nat.le_of_not_lt hik)] at hi
    simp only[cS,eW] at hi
    cases hp:rws[i-ks.length]? with
    | none=>simp[hp] at hi
    | some p=>
     simp only[hp,fH,cC] at hi
     obtain⟨e,n,l,q1,_,_⟩:=hrows p (mS hp)
     exact⟨p.2,hrowF _ p hp k hi,fun e=>by rcases q1 with q1 | q1 <;> (rw[q1] at e;cases e)⟩
  have hkmn:∀(i k:Nat),km0[i]?=some (some k)→k∉nk:=fun i k hi hm=>by
   obtain⟨o,h1,h2⟩:=hkmF i k hi
   rw[(hnf k hm).1] at h1
   cases h1
   exact h2 rfl
  have hkmc:∀(i:Nat) m,(km0++nk.map some)[i]?=some m→(i<po.length∧km0[i]?=some m)∨∃q k,i=po.length+q∧nk[q]?=some k∧m=some k:=fun i m hi=>by
   rw[sC] at hi
   split at hi
   ·rename_i hlt;exact .inl ⟨by omega,hi⟩
   ·rename_i hlt
    rw[eW] at hi
    cases hq:nk[i-km0.length]? with
    | none=>simp[hq] at hi
    | some k=>simp only[hq,fH,cC] at hi;exact .inr ⟨i-km0.length,k,by omega,hq,hi.symm⟩
  have hkmA:∀(i k:Nat),(km0++nk.map some)[i]?=some (some k)→ρ'' k=ρ' i:=fun i k hi=>by
   rcases hkmc i _ hi with⟨h1,h2⟩ | ⟨q,k',h1,h2,h3⟩
   ·rw[hρo k (hkmn i k h2),hρ' i h1,hρP i _ h2]
   ·cases h3;rw[h1];exact hρn q k h2
  have hKm:Jo (km0++nk.map some) ρ' ρ'':=fun i m hi v hv=>by
   cases m with
   | some k=>exact(hkmA i k hi).trans hv
   | none=>
    rcases hkmc i _ hi with⟨h1,h2⟩ | ⟨q,k',h1,h2,h3⟩
    ·rw[hρ' i h1,hρP i _ h2] at hv
     simp only[cC] at hv
     exact hv.symm
    ·cases h3
  have hkmN:((km0++nk.map some).filterMap id).Nodup:=by
   rw[List.filterMap_append,ZY]
   have e1:nk.filterMap (id ∘ some)=nk:=Dd nk
   rw[e1]
   refine rT.2 ⟨SM hks_nd hrk (fun key hk hk2=>?_),hnkd,fun a ha b hb e=>?_⟩
   ·obtain⟨p,hp,hpk⟩:=MM.1 hk2
    obtain⟨i,hi,hie⟩:=CN hk
    obtain⟨kk,g1,g2⟩:=hbox i _ (dG (show i<bl.length by omega))
    rw[dG hi,hie] at g1
    cases g1
    obtain⟨e,n,l,q1,q2,_⟩:=hrows p hp
    have:=q2 key hpk
    rcases q1 with q1 | q1 <;> (rw[g2,q1] at this;cases this)
   ·subst e
    obtain⟨m,hm,hme⟩:=MM.1 ha
    simp only[K9] at hme
    subst hme
    obtain⟨i,hi,hie⟩:=CN hm
    exact hkmn i a (by rw[dG hi,hie]) hb
  have hmem:∀j,some j∈km0++nk.map some→∃i,(km0++nk.map some)[i]?=some (some j):=fun j hj=>by
   obtain⟨i,hi,e⟩:=CN hj
   exact⟨i,by rw[dG hi,e]⟩
  have hlt:∀(i k:Nat),(km0++nk.map some)[i]?=some (some k)→k<(ai st.ae tk).length:=fun i k hi=>by
   rcases hkmc i _ hi with⟨_,h2⟩ | ⟨q,k',_,h2,h3⟩
   ·obtain⟨o,h4,_⟩:=hkmF i k h2
    exact(dA.1 h4).1
   ·cases h3
    exact(dA.1 (hnf k (mS h2)).1).1
  have hXF:∀b,BM po (IY ρ ks rws) b→∃k,some k∈km0++nk.map some∧Has (ai st.ae tk) ρ k b:=fun b ⟨i,hi⟩=>by
   obtain⟨k,h1,h2⟩:=hHpo i b hi
   exact⟨k,fK.2 (.inl (mS h1)),h2⟩
  have hobj:∀(i k:Nat) o,(km0++nk.map some)[i]?=some (some k)→po2[i]?=some o→(IS (ai st.ae tk) (km0++nk.map some) po2)[k]?=some o:=fun i k o h1 h2=>
   UX _ _ _ i k o hkmN h1 h2 (hlt i k h1)
  have hobj':∀(i k:Nat),(km0++nk.map some)[i]?=some (some k)→∃o o2,po'[i]?=some o∧FK (km0++nk.map some) o=some o2∧(IS (ai st.ae tk) (km0++nk.map some) po2)[k]?=some o2:=fun i k hi=>by
   have hil:i<po'.length:=by rw[←hkml];exact(dA.1 hi).1
   obtain⟨o2,g1,g2⟩:=hp2 i _ (dG hil)
   exact⟨_,o2,dG hil,g2,hobj i k o2 hi g1⟩
  have hlive:∀o o2,FK (km0++nk.map some) o=some o2→o2.live=o.live:=fun o o2 ho=>by
   cases o with
   | box l=>
    simp only[FK] at ho
    cases hq:sD (l.map (A2 (km0++nk.map some))) with
    | none=>simp[hq] at ho
    | some l'=>simp only[hq,fH,cC] at ho;subst ho;rfl
   | row fz e n l=>simp only[FK,cC] at ho;subst ho;rfl
   | mp fz e n l=>simp only[FK,cC] at ho;subst ho;rfl
   | cu l=>cases ho
   | rr hole e e2 n l=>cases ho
   | fwd l=>cases ho
   | dead=>simp only[FK,cC] at ho;subst ho;rfl
   | fresh=>cases ho
  have hH2:∀(i k b:Nat),(km0++nk.map some)[i]?=some (some k)→Has (IS (ai st.ae tk) (km0++nk.map some) po2) ρ'' k b→Has po' ρ' i b:=fun i k b hi ⟨o,v,h1,h2,h3,h4⟩=>by
   obtain⟨o0,o2,g1,g2,g3⟩:=hobj' i k hi
   rw[g3] at h1
   cases h1
   exact⟨o0,v,g1,by rw[←hlive _ _ g2];exact h2,by rw[←hkmA i k hi];exact h3,h4⟩
  have hXX:∀b,XB (IS (ai st.ae tk) (km0++nk.map some) po2) ρ'' Xc b→XB po' ρ' (fun b=>XB (ai st.ae tk) ρ Xc b∧¬BM po (IY ρ ks rws) b) b:=fun b hb=>by
   rcases hb with⟨j,hj⟩ | hb
   ·by_cases hK:some j∈km0++nk.map some
    ·obtain⟨i,hi⟩:=hmem j hK
     exact .inl ⟨i,hH2 i j b hi hj⟩
    ·have hj':Has (ai st.ae tk) ρ j b:=by
      obtain⟨o,v,h1,h2,h3,h4⟩:=hj
      rw[uP _ _ _ j hK] at h1
      rw[hρo j (fun hm=>hK (fK.2 (.inr (lE.2 ⟨j,hm,rfl⟩))))] at h3
      exact⟨o,v,h1,h2,h3,h4⟩
     refine .inr ⟨.inl ⟨j,hj'⟩,fun hm=>?_⟩
     obtain⟨k,hk,hh⟩:=hXF b hm
     have:=hf.sep j k b hj' hh
     exact hK (this▸hk)
   ·refine .inr ⟨.inr hb,fun hm=>?_⟩
    obtain⟨k,_,hh⟩:=hXF b hm
    exact hf.xc b ⟨k,hh⟩ hb
  have hsame:cf (fun _=>False) w' w':=.refl _ w'
  refine⟨v,ρ'',_,JM rs',he,hf.change (IS (ai st.ae tk) (km0++nk.map some) po2) ρ'' (fun j=>some j∈km0++nk.map some) hs (fun j hj=>?_) (fun j v hv=>?_) hXF (fun j b hj hb=>?_) (fun j j' b hj hj' hb hb'=>?_) (fun hX j o hj ho=>?_) (fun j hj=>?_),Sp hXX hKm hres hrs',hk1⟩
  ·exact⟨uP _ _ _ j hj,hρo j (fun hm=>hj (fK.2 (.inr (lE.2 ⟨j,hm,rfl⟩))))⟩
  ·by_cases hm:j∈nk
   ·have:ρ j=none:=hf.ae j _ (hnf j hm).1
    rw[this] at hv;cases hv
   ·rw[hρo j hm];exact hv
  ·obtain⟨i,hi⟩:=hmem j hj
   rcases hnew i b (hH2 i j b hi hb) with⟨k',hk'⟩ | hge
   ·exact .inl (hXF b ⟨k',hk'⟩)
   ·exact .inr hge
  ·obtain⟨i,hi⟩:=hmem j hj
   obtain⟨i',hi'⟩:=hmem j' hj'
   have:=hsep i i' b (hH2 i j b hi hb) (hH2 i' j' b hi' hb')
   subst this
   rw[hi] at hi'
   cases hi'
   rfl
  ·obtain⟨i,hi⟩:=hmem j hj
   obtain⟨o0,o2,g1,g2,g3⟩:=hobj' i j hi
   have ho':(IS (ai st.ae tk) (km0++nk.map some) po2)[j]?=some o:=ho
   rw[g3] at ho'
   cases ho'
   have hk0:=hok i o0 g1
   cases o0 with
   | dead=>simp only[FK,cC] at g2;subst g2;trivial
   | fresh=>cases g2
   | rr hole e e2 n l=>cases g2
   | fwd l=>cases g2
   | cu l=>cases g2
   | row fz e n l=>
    simp only[FK,cC] at g2
    subst g2
    obtain⟨v,f1,f2⟩:=hk0
    exact⟨v,(hkmA i j hi).trans f1,f2.1,f2.2.1,(by
     obtain⟨xs,f3,f4⟩:=f2.2.2.1
     exact⟨xs,f3,f4.step hsame (fun _ hb=>False.elim hb) (fun b hb=>.inl (hXX b hb))⟩),fun hz b hb hx=>f2.2.2.2 hz b hb (hXX b hx)⟩
   | mp fz e n l=>
    simp only[FK,cC] at g2
    subst g2
    obtain⟨v,f1,q1,g,es,clock,q2,q3,q4,q5⟩:=hk0
    exact⟨v,(hkmA i j hi).trans f1,q1,g,es,clock,q2,q3,q4.step hsame (fun _ hb=>False.elim hb) (fun b hb=>.inl (hXX b hb)),fun hz hx=>q5 hz (hXX g hx)⟩
   | box l=>
    simp only[FK] at g2
    cases hq:sD (l.map (A2 (km0++nk.map some))) with
    | none=>simp[hq] at g2
    | some l'=>
     simp only[hq,fH,cC] at g2
     subst g2
     obtain⟨v,f1,g,ys,ty,f2,f3,f0,f4⟩:=hk0
     exact⟨v,(hkmA i j hi).trans f1,g,ys,ty,f2,f3,(Ao hq).head f0,XA hXX hKm f4 hq⟩
  ·exact hρo j (fun hm=>by have h7:st.np≤j:=(hnf j hm).2;have h8:j<st.np:=hj;omega)
end
end Go.Eng
