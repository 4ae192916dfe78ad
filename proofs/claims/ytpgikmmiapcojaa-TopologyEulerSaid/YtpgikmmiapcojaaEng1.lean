/- An engine that turns the code of a function into a plain function on tuples, part 1: what it says of a function holds of every run; it has no conditions of its own. -/
import Derived.WalkKit
import Derived.Laws.StructEq
import Derived.ChangeKeysEq
import Derived.Laws.CopyOwn
import Derived.Maps.AppendAt
import Derived.Lib.AppendStr
import Derived.Laws.BytesString
import Derived.Deep.AppendSrc
import Derived.Laws.IdiomCopy
import Derived.MapKept
import Derived.Carry
set_option linter.unusedSimpArgs false
set_option linter.defProp false
set_option linter.unusedVariables false
namespace Go.Eng
open Go.RowKit
def aA:=@if_neg
def aC:=@if_pos
def aK:=@cond_false
def aN:=@cond_true
def aR:=@decide_eq_true
def aW:=@decide_eq_false
def bH:=@Bool.not_true
def bW:=@Bool.not_false
def cS:=@Bool.and_eq_true
def bE:=@decide_eq_true_eq
def bI:=@of_decide_eq_true
def cG:=@Option.some.injEq
def cJ:=@List.mem_cons
def cK:=@decide_true
def dH:=@List.getElem?_eq_getElem
def dC:=@List.nodup_cons
def dL:=@List.getElem?_eq_some_iff
def dM:=@List.length_map
def dP:=@List.length_set
def dY:=@List.mem_cons_of_mem
def fF:=@List.getElem?_map
def fA:=@Option.map_some
def eY:=@if_true
def fK:=@List.getElem?_set_ne
def fG:=@congrArg
def fL:=@List.mem_append
def fM:=@Bool.true_and
def gB:=@Nat.le_refl
def gD:=@Option.bind_assoc
def iC:=@Bool.and_eq_true_iff
def iD:=@if_false
def iJ:=@List.getElem?_set_self
def jF:=@List.all_eq_true
def jY:=@List.getD_eq_getElem?_getD
def kZ:=@List.mem_map
def mM:=@List.mem_of_getElem?
def mO:=@Array.length_toList
def nL:=@Bool.false_eq_true
def nM:=@List.length_take
def nO:=@Int.toNat_natCast
def oA:=@List.length_cons
def pS:=@Option.bind_eq_some_iff
def oB:=@Bool.or_eq_true
def qO:=@List.getElem?_set
def pT:=@List.getElem?_take
def pU:=@List.nodup_append
def rH:=@Nat.add_zero
def tG:=@Option.bind_some
def rR:=@List.getElem?_append
def rS:=@of_decide_eq_false
def tJ:=@List.getElem?_eq_none
def tL:=@List.length_append
def tM:=@Nat.add_mul
def tO:=@List.getElem?_drop
def uK:=@List.eq_nil_of_length_eq_zero
def xR:=@Prod.mk.injEq
def tP:=@Eq.trans
def uM:=@List.mem_range
def uV:=@Array.getElem?_eq_getElem
def uW:=@ne_eq
def wO:=@List.map_cons
def zV:=@beq_iff_eq
def wP:=@List.length_nil
def zW:=@Array.getElem?_eq_some_iff
def ET:=@List.all_cons
def yU:=@List.mem_append_left
def zX:=@List.getElem?_append_left
def zY:=@List.getElem?_cons_zero
def B7:=@List.getElem_of_mem
def A4:=@not_true_eq_false
def B8:=@List.mem_filter
def EU:=@List.ext_getElem?
def HC:=@Nat.le_add_right
def I4:=@Option.map_eq_some_iff
def DW:=@not_or
def DX:=@Iff.rfl
def DY:=@List.map_append
def DZ:=@List.set_set
def D6:=@Iff.trans
def MH:=@Array.getElem?_toList
def EV:=@Nat.mul_le_mul_right
def EW:=@Classical.byContradiction
def HD:=@List.getElem?_append_right
def HE:=@Nat.zero_le
def HF:=@Nat.mul_one
def MI:=@List.mem_filterMap
def OG:=@Bool.and_true
def HG:=@List.append_of_mem
def HH:=@decide_false
def I5:=@List.mem_flatMap
def I7:=@List.append_assoc
def I8:=@dif_pos
def I9:=@Classical.choose_spec
def JA:=@List.mem_append_right
def JB:=@List.set_append
def JC:=@List.not_mem_nil
def MJ:=@Array.getD_eq_getD_getElem?
def MK:=@List.length_drop
def ML:=@List.append_nil
def EX:=@Bool.false_and
def EY:=@or_false
def H5:=@List.mem_of_mem_take
def H6:=@List.take_of_length_le
def H7:=@Nat.le_trans
def T0:=@Array.getElem?_modify
def H8:=@Nat.zero_add
def H9:=@List.flatMap_cons
def IA:=@List.map_nil
def OH:=@List.contains_iff_mem
def KV:=@Bool.or_false
def KW:=@Nat.add_sub_cancel
def KX:=@Nat.lt_of_lt_of_le
def T1:=@Nat.add_sub_cancel_left
def KY:=@List.getElem?_toArray
def OI:=@true_and
def KZ:=@List.getElem?_replicate
def K5:=@List.isEmpty_iff
def K6:=@List.filterMap_cons
def K7:=@id_eq
def OJ:=@List.map_congr_left
def ZD:=@List.all_nil
def K8:=@and_congr_right
def K9:=@List.map_take
def OL:=@List.getElem_mem
def OM:=@Nat.lt_or_ge
def ON:=@List.getElem?_cons_succ
def OO:=@List.drop_drop
def OP:=@List.drop_take
def OQ:=@Nat.min_eq_left
def OR:=@Option.some.inj
def OS:=@Ne.symm
def OT:=@List.eq_of_mem_replicate
def OU:=@List.length_replicate
def OV:=@List.nodup_nil
def OW:=@List.mem_singleton
def OX:=@List.map_toArray
def OY:=@Bool.not_eq_true'
def OZ:=@Bool.and_false
def O0:=@List.map_set
def O1:=@List.length_range
def T2:=@List.mem_of_mem_drop
def ZE:=@List.nil_append
def T3:=@Nat.add_assoc
def T4:=@List.drop_zero
def ZF:=@List.getElem?_range
def T5:=@List.mem_of_mem_head?
def T6:=@List.size_toArray
def T7:=@List.length_singleton
def T8:=@List.take_left
def ZG:=@List.mapM_cons
def T9:=@beq_self_eq_true
def UA:=@List.range_succ
def UB:=@List.mem_cons_self
def UC:=@List.set_comm
def UD:=@Bool.false_or
def UE:=@Nat.sub_self
def UF:=@List.reverse_reverse
def UG:=@Nat.le_antisymm
def UH:=@Bool.eq_false_iff
def UI:=@Bool.eq_iff_iff
def UJ:=@List.take_succ_eq_append_getElem
def UK:=@Decidable.em
def UL:=@and_self
def UM:=@Int.tmod_eq_emod_of_nonneg
def ZH:=@List.take_succ_cons
def ZI:=@List.take_append
def ZJ:=@List.drop_eq_getElem_cons
def ZK:=@not_false_eq_true
def ZL:=@List.set_eq_take_append_cons_drop
def ZM:=@List.drop_append_of_le_length
def ZN:=@Array.mapM_eq_mapM_toList
def ZO:=@List.findIdx?_cons
def ZP:=@Array.getElem?_push
def ZQ:=@Array.toList_eq_nil_iff
def ZR:=@Nat.one_mul
def ZS:=@List.flatMap_append
def ZT:=@Array.ext'
def ZU:=@List.filterMap_map
def ZV:=@List.foldlM_cons
def ZW:=@Bool.or_eq_false_iff
def ZX:=@Bool.and_self
def ZY:=@List.take_length
def ZZ:=@decide_eq_true_iff
def Z1:=@Int.le_refl
def Z2:=@Int.tdiv_eq_ediv_of_nonneg
inductive T where
 | v (x:Value)
 | agg (l:List T)
 | sl (k:Nat) (l:List T)
instance:Inhabited T:=⟨.agg []⟩
def T.cells:T→List T
 | .agg l=>l
 | t=>[t]
def flat(l:List T):List T:=l.flatMap T.cells
theorem qW(t:T)(l:List T):flat (t::l)=t.cells++flat l:=by simp[flat]
theorem xS(l m:List T):flat (l++m)=flat l++flat m:=by simp[flat]
def dt(k:Nat)(l:List T):Prop:=∀t∈l,t.cells.length=k
theorem dt.nil(k:Nat):dt k []:=fun _ h=>by cases h
theorem dt.append{k:Nat}{l m:List T}(h:dt k l)(h':dt k m):dt k (l++m):=fun t ht=>by
 rcases fL.1 ht with ht | ht
 ·exact h t ht
 ·exact h' t ht
theorem dt.length{k:Nat}{l:List T}(h:dt k l):(flat l).length=l.length*k:=by
 induction l with
 | nil=>simp[flat]
 | cons t l ih=>
  rw[qW,tL,h t (by simp),ih (fun t ht=>h t (by simp[ht])),oA,tM]
  omega
theorem dt.drop{k:Nat}{l:List T}(h:dt k l)(n:Nat):dt k (l.drop n):=fun t ht=>h t (T2 ht)
theorem dt.take{k:Nat}{l:List T}(h:dt k l)(n:Nat):dt k (l.take n):=fun t ht=>h t (H5 ht)
theorem dt.ct{k:Nat}{l:List T}(h:dt k l)(n:Nat):flat (l.drop n)=(flat l).drop (n*k):=by
 induction l generalizing n with
 | nil=>simp[flat]
 | cons t l ih=>
  cases n with
  | zero=>simp
  | succ n=>
   have hk:=h t (by simp)
   have e:(n+1)*k=n*k+k:=by rw[tM];omega
   rw[List.drop_succ_cons,ih (fun t ht=>h t (by simp[ht])),qW,List.drop_append,List.drop_eq_nil_of_le (as:=t.cells) (by omega),ZE,e,hk,KW]
theorem dt.de{k:Nat}{l:List T}(h:dt k l)(n:Nat):flat (l.take n)=(flat l).take (n*k):=by
 induction l generalizing n with
 | nil=>simp[flat]
 | cons t l ih=>
  cases n with
  | zero=>simp[flat]
  | succ n=>
   have hk:=h t (by simp)
   have e:(n+1)*k=n*k+k:=by rw[tM];omega
   rw[ZH,qW,qW,ih (fun t ht=>h t (by simp[ht])),ZI,H6 (l:=t.cells) (by omega),e,hk,KW]
theorem dt.cell{k:Nat}{l:List T}(h:dt k l){i:Nat}{t:T}(hi:l[i]?=some t)(j:Nat)(hj:j<k):(flat l)[i*k+j]?=t.cells[j]?:=by
 have hd:=h.ct i
 obtain⟨hlt,rfl⟩:=dL.1 hi
 rw[ZJ hlt,qW] at hd
 have:=fG (fun x=>x[j]?) hd
 simp only[tO] at this
 rw[←this,zX (by rw[h _ (OL hlt)];exact hj)]
def JD:List T→Option (List Value)
 | []=>some []
 | .v (.int .i64 a)::l=>(JD l).map (.int .i64 a::·)
 | _::_=>none
def yZ:Nat→T→Option Value
 | 0,.v (.int .i64 a)=>some (.int .i64 a)
 | 1,.v (.string s)=>some (.string s)
 | m+2,.agg l=>if l.length=m then (JD l).map fun vs=>.agg vs.toArray else none
 | _,_=>none
def WS(v:T)(y:Value):Prop:=(∃l,v=.agg l)∨y.oneCell'=true
inductive Rd (w:World) (X:Nat→Prop):T→Value→Prop
 | v (x:Value):Rd w X (.v x) x
 | agg (l:List T) (cs:Array Value) (hl:cs.size=l.length) (h1:∀(i:Nat) y,cs[i]?=some y→y.oneCell'=true)
  (h:∀(i:Nat) t y,l[i]?=some t→cs[i]?=some y→Rd w X t y):Rd w X (.agg l) (.agg cs)
 | nil (k:Nat) (hk:k<1000000000):Rd w X (.sl k []) (.slice none 0 0)
 | mp (n:Nat) (l:List T) (g:Nat) (es:Array MapEntry) (clock:Nat) (hn:1000000000≤n) (hg:w.heap[g]?=some (.map es clock)) (hx:¬X g) (hl:es.size=l.length)
  (hs:∀(i:Nat) t e,l[i]?=some t→es[i]?=some e→∃k v,t=.agg [k,v]∧yZ (n-1000000000) k=some e.key∧WS v e.val)
  (hv:∀(i:Nat) k v e,l[i]?=some (.agg [k,v])→es[i]?=some e→Rd w X v e.val):Rd w X (.sl n l) (.map (some g))
 | sl (k:Nat) (l:List T) (a:Addr) (c:Nat) (ys:List Value) (hk:k<1000000000) (hc:l.length≤c) (hm:c≤maxLen) (hu:dt k l) (hy:ys.length=(flat l).length)
  (hcell:∀(i:Nat) y,ys[i]?=some y→w.cell? (a.add i)=some y∧¬X a.block∧y.oneCell'=true)
  (h:∀(i:Nat) t y,(flat l)[i]?=some t→ys[i]?=some y→Rd w X t y):Rd w X (.sl k l) (.slice (some a) l.length c)
structure cg (Y:Nat→Prop) (w w':World):Prop where
 os:w'.os=w.os
 tape:w'.tape=w.tape
 output:w'.output=w.output
 size:w.heap.size≤w'.heap.size
 bq:∀b,b<w.heap.size→¬Y b→w'.heap[b]?=w.heap[b]?
theorem cg.refl(Y:Nat→Prop)(w:World):cg Y w w:=⟨rfl,rfl,rfl,gB _,fun _ _ _=>rfl⟩
theorem cg.trans{Y:Nat→Prop}{a b c:World}(h:cg Y a b)(k:cg Y b c):cg Y a c:=
 ⟨k.os.trans h.os,k.tape.trans h.tape,k.output.trans h.output,H7 h.size k.size,
  fun x hx hy=>(k.bq x (KX hx h.size) hy).trans (h.bq x hx hy)⟩
theorem cg.after{Y Z:Nat→Prop}{a b c:World}(h:cg Y a b)(k:cg Z b c)(hz:∀x,Z x→x<a.heap.size→Y x):cg Y a c:=
 ⟨k.os.trans h.os,k.tape.trans h.tape,k.output.trans h.output,H7 h.size k.size,
  fun x hx hy=>(k.bq x (KX hx h.size) (fun hzx=>hy (hz x hzx hx))).trans (h.bq x hx hy)⟩
theorem cg.mono{Y Z:Nat→Prop}{a b:World}(h:cg Y a b)(hz:∀x,Y x→x<a.heap.size→Z x):cg Z a b:=
 ⟨h.os,h.tape,h.output,h.size,fun x hx hn=>h.bq x hx (fun hy=>hn (hz x hy hx))⟩
theorem cg.drew(Y:Nat→Prop)(w:World):cg Y w w.drew:=⟨rfl,rfl,rfl,gB _,fun _ _ _=>rfl⟩
theorem cg.alloc(Y:Nat→Prop)(w:World)(o:Obj):cg Y w (w.alloc o):=
 ⟨rfl,rfl,rfl,by simp,fun b hb _=>Below.heap_alloc w o b hb⟩
theorem cg.setCell(Y:Nat→Prop)(w:World)(a:Addr)(u:Value)(h:Y a.block):cg Y w (w.setCell a u):=
 ⟨rfl,rfl,rfl,by simp[World.setCell],fun b _ hy=>Below.heap_setCell w a u b (fun e=>hy (e▸h))⟩
theorem cg.grown{Y:Nat→Prop}{w w':World}{row:Option Nat}(h:w.grownBy w' row)(hr:∀g,row=some g→Y g):cg Y w w':=
 ⟨h.os,h.tape,h.output,h.size,fun b hb hy=>h.block b hb (fun e=>hy (hr b e.symm))⟩
theorem cg.below{Y:Nat→Prop}{w w':World}(h:cg Y w w')(hy:∀b,¬Y b):Below w.heap.size w w':=
 ⟨h.os,h.tape,h.output,h.size,fun b hb=>h.bq b hb (hy b)⟩
theorem cg.cell{Y:Nat→Prop}{w w':World}(h:cg Y w w'){a:Addr}{y:Value}(hc:w.cell? a=some y)(hy:¬Y a.block):w'.cell? a=some y:=
 (World.cell?_of_block (h.bq a.block (World.block_lt_of_cell? w a hc) hy)).trans hc
theorem uN(a:Addr)(i:Nat):(a.add i).block=a.block:=by unfold Addr.add;split <;> rfl
theorem sK(a:Addr)(i j:Nat):(a.add i).add j=a.add (i+j):=by
 unfold Addr.add
 by_cases hi:i=0 <;> by_cases hj:j=0 <;> simp[hi,hj,T3]
theorem Rd.step{w w':World}{X X' Y:Nat→Prop}{t:T}{y:Value}(h:Rd w X t y)(hs:cg Y w w')(hY:∀b,Y b→X b)
 (hX:∀b,X' b→X b∨w.heap.size≤b):Rd w' X' t y:=by
 induction h with
 | v x=>exact .v x
 | agg l cs hl h1 _ ih=>exact .agg l cs hl h1 ih
 | nil k hk=>exact .nil k hk
 | mp n l g es clock hn hg hx hl hs' _ ih=>
  have hlt:g<w.heap.size:=(zW.1 hg).1
  refine .mp n l g es clock hn ((hs.bq g hlt fun hy=>hx (hY _ hy)).trans hg) (fun hx'=>?_) hl hs' ih
  rcases hX _ hx' with h | h
  ·exact hx h
  ·omega
 | sl k l a c ys hk hc hm hu hy hcell _ ih=>
  refine .sl k l a c ys hk hc hm hu hy (fun i y hi=>?_) ih
  obtain⟨h1,h2,h3⟩:=hcell i y hi
  have hlt:=World.block_lt_of_cell? w _ h1
  rw[uN] at hlt
  refine⟨hs.cell h1 (by rw[uN];exact fun hb=>h2 (hY _ hb)),fun hx=>?_,h3⟩
  rcases hX _ hx with h | h
  ·exact h2 h
  ·omega
theorem Rd.ij{w:World}{X X':Nat→Prop}{t:T}{y:Value}(h:Rd w X t y)(hX:∀b,X' b→X b):Rd w X' t y:=
 h.step (Y:=fun _=>False) (.refl _ w) (fun _ h=>h.elim) (fun b hb=>.inl (hX b hb))
theorem Rd.cr{w:World}{X:Nat→Prop}{x y:Value}(h:Rd w X (.v x) y):y=x:=by cases h;rfl
inductive C where
 | t (x:T)
 | box (k j:Nat)
 | row (k:Nat)
 | pe (n:Nat) (x:T) (j:Nat)
 | ic (k n i j:Nat)
 | fn (f:Nat) (caps:List (Nat×Nat))
 | self (t:TypeId)
 | cut (k n lo len:Nat) (tight:Bool)
 | fe
 | rk (k:Nat)
 | ko (k i:Nat)
 | fg (k i:Nat)
 | top
inductive S1 where
 | c (x:C)
 | agg (l:List C)
inductive D where
 | s (x:S1)
 | eg (l:List S1)
def D.top:D:=.s (.c .top)
instance:Inhabited D:=⟨D.top⟩
instance:Inhabited C:=⟨.top⟩
inductive O where
 | box (l:List C)
 | row (fz:Bool) (e:TypeId) (n:Nat) (l:List T)
 | mp (fz:Bool) (e:TypeId) (n:Nat) (l:List T)
 | cv (l:List C)
 | rr (hole:Option Nat) (e e2:TypeId) (n:Nat) (l:List (List T))
 | fwd (k:Nat)
 | dead
 | fresh
instance:Inhabited O:=⟨.fresh⟩
def O.live:O→Bool
 | .box _=>true
 | .row fz _ _ _=>!fz
 | .mp fz _ _ _=>!fz
 | .rr _ _ _ _ _=>true
 | _=>false
def SQ(e:TypeId)(n:Nat)(l:List T):O:=if n<1000000000 then .row false e n l else .mp false e n l
structure St where
 np:Nat
 env:List D
 ae:List O
def JE:Value→Option Addr
 | .pointer (some a)=>some a
 | .slice (some a) _ _=>some a
 | _=>none
def O2(h:Value)(j:Nat)(y:Value):Prop:=∃a,JE h=some a∧y=.pointer (some (a.add j))
def ek(h:Value)(n lo len:Nat)(tight:Bool)(y:Value):Prop:=
 ∃ao L c cc ao',h=.slice ao L c∧y=.slice ao' len cc∧lo+len≤L∧len≤cc∧lo+cc≤c∧(0<cc→ao'=ao.map (·.add (lo*n)))∧(tight=true→cc=len)
def bq:Value→Option Nat
 | .pointer (some a)=>some a.block
 | .slice (some a) _ c=>if c=0 then none else some a.block
 | .map (some g)=>some g
 | _=>none
def df(h:Value)(b:Nat):Prop:=bq h=some b∨∃vs:Array Value,h=.tuple vs∧∃v∈vs.toList,bq v=some b
theorem df.one{h:Value}{b:Nat}(hb:df h b)(h1:h.oneCell'=true):bq h=some b:=by
 rcases hb with hb | ⟨vs,rfl,_⟩
 ·exact hb
 ·cases h1
theorem df.of{h:Value}{b:Nat}(hb:bq h=some b):df h b:=.inl hb
def rowAt(w:World)(e:TypeId)(n:Nat)(h:Value)(len:Nat)(xs:List Value):Prop:=
 xs.length=len*n∧(((h=.slice none 0 0∨∃a,h=.slice (some a) 0 0)∧len=0) ∨
  ∃g off cap jD,h=.slice (some ⟨g,off,none⟩) len cap∧0<cap∧w.heap[g]?=some (.cells jD e (0,0))∧len≤cap∧cap≤maxLen∧off+cap*n≤jD.size∧(jD.toList.drop off).take (len*n)=xs)
theorem rowAt.nil(w:World)(e:TypeId)(n:Nat):rowAt w e n (.slice none 0 0) 0 []:=⟨by simp,.inl ⟨.inl rfl,rfl⟩⟩
theorem rowAt.one{w:World}{e:TypeId}{n len:Nat}{h:Value}{xs:List Value}(hr:rowAt w e n h len xs):h.oneCell'=true:=by
 rcases hr.2 with⟨rfl | ⟨a,rfl⟩,_⟩ | ⟨g,off,cap,jD,rfl,_⟩ <;> rfl
theorem rowAt.jo{w:World}{b e n len:Nat}{h:Value}{xs:List Value}(ho:w.ownsRow b e n h len xs):rowAt w e n h len xs:=by
 refine⟨ho.1,?_⟩
 rcases ho.2 with⟨h1,h2⟩ | ⟨g,cap,jD,h1,_,h3,h4,h5,h6,h7⟩
 ·exact .inl ⟨.inl h1,h2⟩
 ·by_cases hc:cap=0
  ·subst hc
   have:len=0:=by omega
   subst this
   exact .inl ⟨.inr ⟨_,h1⟩,rfl⟩
  ·exact .inr ⟨g,0,cap,jD,h1,by omega,h3,h4,h5,by omega,by rw[T4];exact h7⟩
theorem rowAt.cells{w:World}{e:TypeId}{n len:Nat}{h:Value}{xs:List Value}(hr:rowAt w e n h len xs){a:Addr}{len' cap:Nat}(ha:h=.slice (some a) len' cap)(i:Nat)(y:Value)(hi:xs[i]?=some y):w.cell? (a.add i)=some y:=by
 rcases hr.2 with⟨_,h0⟩ | ⟨g,off,cap',jD,h1,h2,h3,h4,h5,h6,h7⟩
 ·have h1:=hr.1
  rw[h0,Nat.zero_mul] at h1
  rw[uK h1] at hi
  cases hi
 ·rw[ha] at h1
  cases h1
  have hadd:(⟨g,off,none⟩:Addr).add i=⟨g,off+i,none⟩:=by unfold Addr.add;split <;> simp_all
  rw[hadd]
  simp only[World.cell?,h3]
  rw[←h7,pT] at hi
  split at hi
  ·rw[tO] at hi
   simpa using hi
  ·cases hi
def UN:List C→Option TypeId
 | .self t::_=>some t
 | _=>none
def da(l:List C)(g:Nat)(ys:Array Value)(ty:TypeId):Prop:=∀t,UN l=some t→ty=t∧∃y,ys[0]?=some y∧(y=.pointer none∨y=.pointer (some ⟨g,0,none⟩))
theorem da.none{l:List C}{g:Nat}{ys:Array Value}{ty:TypeId}(h:UN l=none):da l g ys ty:=fun t ht=>by rw[h] at ht;cases ht
def cd(l m:List C):Prop:=∀(i:Nat) t,m[i]?=some (.self t)→l[i]?=some (.self t)
theorem B9{l:List C}{t:TypeId}:UN l=some t↔l[0]?=some (.self t):=by
 match l with
 | []=>simp[UN]
 | c::l=>cases c <;> simp[UN]
theorem cd.head{l m:List C}(h:cd l m){g:Nat}{ys:Array Value}{ty:TypeId}(hh:da l g ys ty):da m g ys ty:=fun t ht=>hh t (B9.2 (h 0 t (B9.1 ht)))
theorem cd.right{l m m':List C}(h:cd (l++m) m'):cd m (m'.drop l.length):=fun i t hi=>by
 rw[tO] at hi
 have:=h _ t hi
 rwa[HD (HC _ _),T1] at this
theorem cd.left{l m m':List C}(h:cd (l++m) m'):cd l (m'.take l.length):=fun i t hi=>by
 rw[pT] at hi
 split at hi
 ·rename_i hlt
  have:=h _ t hi
  rwa[zX hlt] at this
 ·cases hi
section
variable (w:World) (X:Nat→Prop) (ρ:Nat→Option Value)
def ik(n:Nat)(x:T)(a:Addr):Prop:=
 x.cells.length=n∧∃ys:List Value,ys.length=n∧(∀(i:Nat) y,ys[i]?=some y→w.cell? (a.add i)=some y∧¬X a.block∧y.oneCell'=true) ∧
  ∀(i:Nat) t y,x.cells[i]?=some t→ys[i]?=some y→Rd w X t y
def ib:C→Value→Prop
 | .t x,y=>Rd w X x y
 | .box k j,y=>∃h,ρ k=some h∧O2 h j y
 | .row k,y=>ρ k=some y
 | .pe n x j,y=>∃a,y=.pointer (some (a.add j))∧ik w X n x a
 | .ic k n i j,y=>∃h,ρ k=some h∧O2 h (i*n+j) y
 | .fn f caps,y=>∃hs:List Value,y=.func (.func f) #[] hs.toArray∧hs.length=caps.length∧∀(i:Nat) p v,caps[i]?=some p→hs[i]?=some v→∃h,ρ p.1=some h∧O2 h p.2 v
 | .self _,_=>True
 | .cut k n lo len tg,y=>∃h,ρ k=some h∧ek h n lo len tg y
 | .fe,y=>∃b,y=.bool b
 | .rk k,y=>∃vs:Array Value,ρ k=some (.tuple vs)∧vs[0]?=some y
 | .ko k i,y=>∃(vs:Array Value) (h:Value),ρ k=some (.tuple vs)∧vs[0]?=some h∧O2 h i y
 | .fg k i,y=>∃vs:Array Value,ρ k=some (.tuple vs)∧vs[i+1]?=some y
 | .top,_=>True
def cm(c:C)(y:Value):Prop:=c=.top∨(ib w X ρ c y∧y.oneCell'=true)
def bw(l:List C)(ys:List Value):Prop:=ys.length=l.length∧∀(i:Nat) c y,l[i]?=some c→ys[i]?=some y→cm w X ρ c y
def en:S1→Value→Prop
 | .c c,y=>cm w X ρ c y
 | .agg l,y=>∃cs:Array Value,y=.agg cs∧bw w X ρ l cs.toList
def cz(l:List S1)(ys:List Value):Prop:=ys.length=l.length∧∀(i:Nat) s y,l[i]?=some s→ys[i]?=some y→en w X ρ s y
def bc:D→Value→Prop
 | .s s,y=>en w X ρ s y
 | .eg l,y=>∃vs:Array Value,y=.tuple vs∧cz w X ρ l vs.toList
def dp(l:List T)(ys:List Value):Prop:=ys.length=l.length∧∀(i:Nat) t y,l[i]?=some t→ys[i]?=some y→Rd w X t y∧y.oneCell'=true
def gi(n:Nat)(l:List T)(es:Array MapEntry)(clock:Nat):Prop:=es.size=l.length ∧
 (∀(i:Nat) t e,l[i]?=some t→es[i]?=some e→∃k v,t=.agg [k,v]∧yZ (n-1000000000) k=some e.key∧WS v e.val) ∧
 (∀(i:Nat) k v e,l[i]?=some (.agg [k,v])→es[i]?=some e→Rd w X v e.val)∧clock=es.size∧∀(i:Nat) e,es[i]?=some e→e.born=i
def iz(hole:Option Nat)(e e2:TypeId)(n:Nat)(l:List (List T))(h:Value):Prop:=(0<n∧n<1000000000)∧∃(ho:Value) (hs xs:List Value),h=.tuple (ho::hs).toArray ∧
 rowAt w e 1 ho l.length xs∧hs.length=l.length∧(∀(i:Nat) y z,xs[i]?=some y→hs[i]?=some z→y.oneCell'=true∧(hole≠some i→y=z)) ∧
 (∀(i:Nat) m y,l[i]?=some m→hs[i]?=some y→dt n m∧∃ys,rowAt w e2 n y m.length ys∧dp w X (flat m) ys) ∧
 ∀(i j:Nat) y z b,(ho::hs)[i]?=some y→(ho::hs)[j]?=some z→bq y=some b→bq z=some b→i=j
def cu(h:Value):O→Prop
 | .box l=>∃g ys ty,h=.pointer (some ⟨g,0,none⟩)∧w.heap[g]?=some (.cells ys ty (0,0))∧da l g ys ty∧bw w X ρ l ys.toList
 | .cv l=>∃g ys ty,h=.pointer (some ⟨g,0,none⟩)∧w.heap[g]?=some (.cells ys ty (0,0))∧bw w X ρ l ys.toList∧¬X g
 | .mp fz e n l=>1000000000≤n∧∃g es clock,h=.map (some g)∧w.heap[g]?=some (.map es clock)∧gi w X n l es clock∧(fz=true→¬X g)
 | .row fz e n l=>(0<n∧n<1000000000)∧dt n l∧(∃xs,rowAt w e n h l.length xs∧dp w X (flat l) xs)∧(fz=true→∀b,bq h=some b→¬X b)
 | .rr hole e e2 n l=>iz w X hole e e2 n l h
 | .fwd k=>∃vs vs':Array Value,h=.tuple vs∧ρ k=some (.tuple vs')∧vs'[0]?=vs[0]?
 | _=>True
end
abbrev nP:=Nat→Option Value
structure cq where
 dw:nP
 ex:List (D×Value)
def Has(ae:List O)(ρ:nP)(k b:Nat):Prop:=∃(o:O) (h:Value),ae[k]?=some o∧o.live=true∧ρ k=some h∧df h b
def AZ(ae:List O)(ρ:nP)(b:Nat):Prop:=∃k,Has ae ρ k b
def XB(ae:List O)(ρ:nP)(Xc:Nat→Prop)(b:Nat):Prop:=AZ ae ρ b∨Xc b
def Wy(ae:List O)(ρ:nP):Prop:=∀(k k' b:Nat),Has ae ρ k b→Has ae ρ k' b→k=k'
def Uv(w:World)(X:Nat→Prop)(ρ:nP)(k:Nat):O→Prop
 | .dead=>True
 | .fresh=>ρ k=none
 | o=>∃h,ρ k=some h∧cu w X ρ h o
structure Rel (w0:World) (F Xc:Nat→Prop) (ρ0:cq) (ρ:nP) (st:St) (a:Act) (w:World):Prop where
 len:a.tmps.size=st.env.length
 env:∀(i:Nat) d y,st.env[i]?=some d→a.tmps[i]?=some y→bc w (XB st.ae ρ Xc) ρ d y
 ae:∀(k:Nat) o,st.ae[k]?=some o→Uv w (XB st.ae ρ Xc) ρ k o
 sep:Wy st.ae ρ
 own:∀b,AZ st.ae ρ b→w0.heap.size≤b∨F b
 par:∀k,k<st.np→ρ k=ρ0.dw k
 defers:a.defers=[]
 frame:cg F w0 w
 jm:∀b,Xc b→b<w0.heap.size
 xc:∀b,AZ st.ae ρ b→¬Xc b
 ext:∀p∈ρ0.ex,bc w (XB st.ae ρ Xc) ρ p.1 p.2
def gj(ρ ρ':nP):Prop:=∀k h,ρ k=some h→ρ' k=some h
theorem gj.refl(ρ:nP):gj ρ ρ:=fun _ _ h=>h
section
variable {w w':World} {X X' Y:Nat→Prop} {ρ ρ':nP}
theorem ik.step{n:Nat}{x:T}{a:Addr}(h:ik w X n x a)(hs:cg Y w w')(hY:∀b,Y b→X b)(hX:∀b,X' b→X b∨w.heap.size≤b):ik w' X' n x a:=by
 obtain⟨h0,ys,hl,hc,ht⟩:=h
 refine⟨h0,ys,hl,fun i y hi=>?_,fun i t y h1 h2=>(ht i t y h1 h2).step hs hY hX⟩
 obtain⟨h1,h2,h3⟩:=hc i y hi
 have hlt:=World.block_lt_of_cell? w _ h1
 rw[uN] at hlt
 refine⟨hs.cell h1 (by rw[uN];exact fun hb=>h2 (hY _ hb)),fun hx=>?_,h3⟩
 rcases hX _ hx with h | h
 ·exact h2 h
 ·omega
theorem ib.step{c:C}{y:Value}(h:ib w X ρ c y)(hs:cg Y w w')(hY:∀b,Y b→X b)(hX:∀b,X' b→X b∨w.heap.size≤b)(hρ:gj ρ ρ'):ib w' X' ρ' c y:=by
 cases c with
 | t x=>exact Rd.step h hs hY hX
 | box k j=>obtain⟨v,h1,h2⟩:=h;exact⟨v,hρ _ _ h1,h2⟩
 | row k=>exact hρ _ _ h
 | pe n x j=>obtain⟨a,h1,h2⟩:=h;exact⟨a,h1,h2.step hs hY hX⟩
 | ic k n i j=>obtain⟨v,h1,h2⟩:=h;exact⟨v,hρ _ _ h1,h2⟩
 | fn f caps=>
  obtain⟨hs',h1,h2,h3⟩:=h
  refine⟨hs',h1,h2,fun i p v hp hv=>?_⟩
  obtain⟨v',e1,e2⟩:=h3 i p v hp hv
  exact⟨v',hρ _ _ e1,e2⟩
 | self t=>trivial
 | cut k n lo len tg=>obtain⟨v,h1,h2⟩:=h;exact⟨v,hρ _ _ h1,h2⟩
 | fe=>exact h
 | rk k=>obtain⟨vs,h1,h2⟩:=h;exact⟨vs,hρ _ _ h1,h2⟩
 | ko k i=>obtain⟨vs,v,h1,h2,h3⟩:=h;exact⟨vs,v,hρ _ _ h1,h2,h3⟩
 | fg k i=>obtain⟨vs,h1,h2⟩:=h;exact⟨vs,hρ _ _ h1,h2⟩
 | top=>trivial
theorem cm.step{c:C}{y:Value}(h:cm w X ρ c y)(hs:cg Y w w')(hY:∀b,Y b→X b)(hX:∀b,X' b→X b∨w.heap.size≤b)(hρ:gj ρ ρ'):cm w' X' ρ' c y:=
 h.imp id fun⟨h1,h2⟩=>⟨h1.step hs hY hX hρ,h2⟩
theorem bw.step{l:List C}{ys:List Value}(h:bw w X ρ l ys)(hs:cg Y w w')(hY:∀b,Y b→X b)(hX:∀b,X' b→X b∨w.heap.size≤b)(hρ:gj ρ ρ'):bw w' X' ρ' l ys:=
 ⟨h.1,fun i c y h1 h2=>(h.2 i c y h1 h2).step hs hY hX hρ⟩
theorem en.step{s:S1}{y:Value}(h:en w X ρ s y)(hs:cg Y w w')(hY:∀b,Y b→X b)(hX:∀b,X' b→X b∨w.heap.size≤b)(hρ:gj ρ ρ'):en w' X' ρ' s y:=by
 cases s with
 | c c=>exact cm.step h hs hY hX hρ
 | agg l=>obtain⟨cs,e,hl⟩:=h;exact⟨cs,e,hl.step hs hY hX hρ⟩
theorem cz.step{l:List S1}{ys:List Value}(h:cz w X ρ l ys)(hs:cg Y w w')(hY:∀b,Y b→X b)(hX:∀b,X' b→X b∨w.heap.size≤b)(hρ:gj ρ ρ'):cz w' X' ρ' l ys:=
 ⟨h.1,fun i c y h1 h2=>(h.2 i c y h1 h2).step hs hY hX hρ⟩
theorem bc.step{d:D}{y:Value}(h:bc w X ρ d y)(hs:cg Y w w')(hY:∀b,Y b→X b)(hX:∀b,X' b→X b∨w.heap.size≤b)(hρ:gj ρ ρ'):bc w' X' ρ' d y:=by
 cases d with
 | s s=>exact en.step h hs hY hX hρ
 | eg l=>obtain⟨vs,e,hl⟩:=h;exact⟨vs,e,hl.step hs hY hX hρ⟩
theorem dp.step{l:List T}{ys:List Value}(h:dp w X l ys)(hs:cg Y w w')(hY:∀b,Y b→X b)(hX:∀b,X' b→X b∨w.heap.size≤b):dp w' X' l ys:=
 ⟨h.1,fun i t y h1 h2=>⟨(h.2 i t y h1 h2).1.step hs hY hX,(h.2 i t y h1 h2).2⟩⟩
theorem gi.step{n clock:Nat}{l:List T}{es:Array MapEntry}(h:gi w X n l es clock)(hs:cg Y w w')(hY:∀b,Y b→X b)(hX:∀b,X' b→X b∨w.heap.size≤b):gi w' X' n l es clock:=
 ⟨h.1,h.2.1,fun i k v e h1 h2=>(h.2.2.1 i k v e h1 h2).step hs hY hX,h.2.2.2⟩
theorem rowAt.step{e:TypeId}{n len:Nat}{h:Value}{xs:List Value}(hr:rowAt w e n h len xs)(hs:cg Y w w')(hb:∀b,bq h=some b→¬Y b):rowAt w' e n h len xs:=by
 refine⟨hr.1,?_⟩
 rcases hr.2 with hn | ⟨g,off,cap,jD,e',hb',hg,rest⟩
 ·exact .inl hn
 ·have hlt:g<w.heap.size:=(zW.1 hg).1
  exact .inr ⟨g,off,cap,jD,e',hb',(hs.bq g hlt (hb g (by simp[e',bq];omega))).trans hg,rest⟩
theorem rowAt.lt{e:TypeId}{n len:Nat}{h:Value}{xs:List Value}(hr:rowAt w e n h len xs){b:Nat}(hb:bq h=some b):b<w.heap.size:=by
 rcases hr.2 with⟨hn | ⟨a,hn⟩,_⟩ | ⟨g,off,cap,jD,e',hb',hg,rest⟩
 ·simp[hn,bq] at hb
 ·simp[hn,bq] at hb
 ·simp[e',bq] at hb
  exact hb.2▸(zW.1 hg).1
theorem iz.step{hole:Option Nat}{e e2:TypeId}{n:Nat}{l:List (List T)}{h:Value}(ho:iz w X hole e e2 n l h)(hs:cg Y w w')(hY:∀b,Y b→X b)(hX:∀b,X' b→X b∨w.heap.size≤b)
 (hb:∀b,df h b→¬Y b):iz w' X' hole e e2 n l h:=by
 obtain⟨h0,v,vs,xs,rfl,h1,h2,h3,h4,h5⟩:=ho
 have gf:∀y∈v::vs,∀b,bq y=some b→¬Y b:=fun y hy b hyb=>hb b (.inr ⟨_,rfl,y,by simpa using hy,hyb⟩)
 refine⟨h0,v,vs,xs,rfl,h1.step hs (gf v (by simp)),h2,h3,fun i m y e1 e3=>?_,h5⟩
 obtain⟨q1,ys,q2,q3⟩:=h4 i m y e1 e3
 exact⟨q1,ys,q2.step hs (gf y (by simp[mM e3])),q3.step hs hY hX⟩
theorem iz.lt{hole:Option Nat}{e e2:TypeId}{n:Nat}{l:List (List T)}{h:Value}(ho:iz w X hole e e2 n l h){b:Nat}(hb:df h b):b<w.heap.size:=by
 obtain⟨h0,v,vs,xs,rfl,h1,h2,h3,h4,h5⟩:=ho
 rcases hb with hb | ⟨us,hus,y,hy,hyb⟩
 ·cases hb
 ·cases hus
  simp only[cJ] at hy
  rcases hy with rfl | hy
  ·exact h1.lt hyb
  ·obtain⟨i,hi,rfl⟩:=B7 hy
   have hlt:i<l.length:=by omega
   obtain⟨_,ys,q2,_⟩:=h4 i _ _ (dH hlt) (dH hi)
   exact q2.lt hyb
theorem cu.step{h:Value}{o:O}(ho:cu w X ρ h o)(hs:cg Y w w')(hY:∀b,Y b→X b)(hX:∀b,X' b→X b∨w.heap.size≤b)(hρ:gj ρ ρ')
 (hb:∀b,df h b→¬Y b):cu w' X' ρ' h o:=by
 replace hb':=hb
 replace hb:∀b,bq h=some b→¬Y b:=fun b e=>hb b (.inl e)
 cases o with
 | rr hole e e2 n l=>exact iz.step ho hs hY hX hb'
 | fwd k=>obtain⟨vs,vs',e1,e2,e3⟩:=ho;exact⟨vs,vs',e1,hρ _ _ e2,e3⟩
 | box l=>
  obtain⟨g,ys,ty,e,hg,hh,hl⟩:=ho
  have hlt:g<w.heap.size:=(zW.1 hg).1
  exact⟨g,ys,ty,e,(hs.bq g hlt (hb g (by simp[e,bq]))).trans hg,hh,hl.step hs hY hX hρ⟩
 | row fz e n l=>
  obtain⟨h0,hu,⟨xs,hown,hr⟩,hf⟩:=ho
  refine⟨h0,hu,⟨xs,⟨hown.1,?_⟩,hr.step hs hY hX⟩,fun hz b hbb hx=>?_⟩
  ·rcases hown.2 with hn | ⟨g,off,cap,jD,e',hb',hg,rest⟩
   ·exact .inl hn
   ·have hlt:g<w.heap.size:=(zW.1 hg).1
    exact .inr ⟨g,off,cap,jD,e',hb',(hs.bq g hlt (hb g (by simp[e',bq];omega))).trans hg,rest⟩
  ·rcases hX b hx with hx | hx
   ·exact hf hz b hbb hx
   ·rcases hown.2 with⟨hn | ⟨a,hn⟩,_⟩ | ⟨g,off,cap,jD,e',hb',hg,rest⟩
    ·simp[hn,bq] at hbb
    ·simp[hn,bq] at hbb
    ·have hlt:g<w.heap.size:=(zW.1 hg).1
     simp[e',bq] at hbb
     omega
 | mp fz e n l=>
  obtain⟨h0,g,es,clock,e',hg,he,hf⟩:=ho
  have hlt:g<w.heap.size:=(zW.1 hg).1
  refine⟨h0,g,es,clock,e',(hs.bq g hlt (hb g (by simp[e',bq]))).trans hg,he.step hs hY hX,fun hz hx=>?_⟩
  rcases hX g hx with hx | hx
  ·exact hf hz hx
  ·omega
 | cv l=>
  obtain⟨g,ys,ty,e',hg,hl,hf⟩:=ho
  have hlt:g<w.heap.size:=(zW.1 hg).1
  refine⟨g,ys,ty,e',(hs.bq g hlt (hb g (by simp[e',bq]))).trans hg,hl.step hs hY hX hρ,fun hx=>?_⟩
  rcases hX g hx with hx | hx
  ·exact hf hx
  ·omega
 | dead=>trivial
 | fresh=>trivial
theorem cu.one{h:Value}{o:O}(ho:cu w X ρ h o)(hl:o.live=true):h.oneCell'=true∨∃hole e e2 n l,o=.rr hole e e2 n l:=by
 cases o with
 | box l=>obtain⟨g,ys,ty,e,hg,_⟩:=ho;subst e;exact .inl rfl
 | row fz e n l=>obtain⟨_,_,⟨xs,hown,_⟩,_⟩:=ho;exact .inl hown.one
 | mp fz e n l=>obtain⟨_,g,es,clock,e',_⟩:=ho;subst e';exact .inl rfl
 | rr hole e e2 n l=>exact .inr ⟨_,_,_,_,_,rfl⟩
 | cv l=>simp[O.live] at hl
 | fwd k=>simp[O.live] at hl
 | dead=>simp[O.live] at hl
 | fresh=>simp[O.live] at hl
theorem cu.lt{h:Value}{o:O}(ho:cu w X ρ h o)(hl:o.live=true){b:Nat}(hb:df h b):b<w.heap.size:=by
 rcases ho.one hl with h1 | ⟨_,_,_,_,_,rfl⟩
 case inr=>exact iz.lt ho hb
 replace hb:=hb.one h1
 cases o with
 | rr hole e e2 n l=>obtain⟨_,v,vs,xs,rfl,_⟩:=ho;cases h1
 | fwd k=>simp[O.live] at hl
 | box l=>
  obtain⟨g,ys,ty,e,hg,_⟩:=ho
  simp[e,bq] at hb
  exact hb▸(zW.1 hg).1
 | row fz e n l=>
  obtain⟨_,_,⟨xs,hown,_⟩,_⟩:=ho
  rcases hown.2 with⟨hn | ⟨a,hn⟩,_⟩ | ⟨g,off,cap,jD,e',hb',hg,rest⟩
  ·simp[hn,bq] at hb
  ·simp[hn,bq] at hb
  ·simp[e',bq] at hb
   exact hb.2▸(zW.1 hg).1
 | mp fz e n l=>
  obtain⟨_,g,es,clock,e',hg,_⟩:=ho
  simp[e',bq] at hb
  exact hb▸(zW.1 hg).1
 | cv l=>simp[O.live] at hl
 | dead=>simp[O.live] at hl
 | fresh=>simp[O.live] at hl
end
theorem Has.kn{ae:List O}{ρ:nP}{k b:Nat}(h:Has ae ρ k b):AZ ae ρ b:=⟨k,h⟩
theorem XB.kn{ae:List O}{ρ:nP}{Xc:Nat→Prop}{b:Nat}(h:AZ ae ρ b):XB ae ρ Xc b:=.inl h
section
variable {w0 w w':World} {F Xc:Nat→Prop} {ρ0:cq} {ρ ρ':nP} {st:St} {a:Act}
theorem Rel.lt(h:Rel w0 F Xc ρ0 ρ st a w){b:Nat}(hb:AZ st.ae ρ b):b<w.heap.size:=by
 obtain⟨k,o,v,h1,h2,h3,h4⟩:=hb
 have:=h.ae k o h1
 cases o with
 | dead=>simp[O.live] at h2
 | cv l=>simp[O.live] at h2
 | fresh=>simp[O.live] at h2
 | fwd k=>simp[O.live] at h2
 | rr hole e e2 n l=>obtain⟨v',e1,e2⟩:=this;rw[h3] at e1;cases e1;exact cu.lt (o:=.rr hole e _ n l) e2 h2 h4
 | box l=>obtain⟨v',e1,e2⟩:=this;rw[h3] at e1;cases e1;exact e2.lt h2 h4
 | row fz e n l=>obtain⟨v',e1,e2⟩:=this;rw[h3] at e1;cases e1;exact e2.lt h2 h4
 | mp fz e n l=>obtain⟨v',e1,e2⟩:=this;rw[h3] at e1;cases e1;exact e2.lt h2 h4
def St.put(st:St)(dst:Option Nat)(d:D):St:=match dst with
 | some i=>{ st with env:=st.env.set i d }
 | none=>st
theorem Rel.put(h:Rel w0 F Xc ρ0 ρ st a w)(dst:Option Nat){d:D}{v:Value}(hd:bc w (XB st.ae ρ Xc) ρ d v):Rel w0 F Xc ρ0 ρ (st.put dst d) (a.put dst v) w:=by
 cases dst with
 | none=>exact h
 | some j=>
  refine⟨by simpa[St.put,Act.put] using h.len,fun i d' y h1 h2=>?_,h.ae,h.sep,h.own,h.par,h.defers,h.frame,h.jm,h.xc,h.ext⟩
  simp only[St.put,Act.put,qO,Array.getElem?_setIfInBounds] at h1 h2
  have hlen:=h.len
  by_cases hij:j=i
  ·subst hij
   simp only[eY] at h1 h2
   split at h1
   ·rename_i hl
    rw[aC (by omega)] at h2
    cases h1;cases h2
    exact hd
   ·cases h1
  ·simp only[hij,iD] at h1 h2
   exact h.env i d' y h1 h2
theorem Rel.world(h:Rel w0 F Xc ρ0 ρ st a w)(hs:cg (fun _=>False) w w'):Rel w0 F Xc ρ0 ρ st a w':=by
 refine⟨h.len,fun i d y h1 h2=>(h.env i d y h1 h2).step hs (fun _ h=>h.elim) (fun _ hb=>.inl hb) (.refl _),fun k o ho=>?_,h.sep,h.own,h.par,h.defers,?_,h.jm,h.xc,fun p hp=>(h.ext p hp).step hs (fun _ h=>h.elim) (fun _ hb=>.inl hb) (.refl _)⟩
 ·have:=h.ae k o ho
  cases o with
  | dead=>trivial
  | fresh=>exact this
  | box l=>obtain⟨v,e1,e2⟩:=this;exact⟨v,e1,e2.step hs (fun _ h=>h.elim) (fun _ hb=>.inl hb) (.refl _) (fun _ _ h=>h)⟩
  | row fz e n l=>obtain⟨v,e1,e2⟩:=this;exact⟨v,e1,e2.step hs (fun _ h=>h.elim) (fun _ hb=>.inl hb) (.refl _) (fun _ _ h=>h)⟩
  | mp fz e n l=>obtain⟨v,e1,e2⟩:=this;exact⟨v,e1,e2.step hs (fun _ h=>h.elim) (fun _ hb=>.inl hb) (.refl _) (fun _ _ h=>h)⟩
  | cv l=>obtain⟨v,e1,e2⟩:=this;exact⟨v,e1,e2.step hs (fun _ h=>h.elim) (fun _ hb=>.inl hb) (.refl _) (fun _ _ h=>h)⟩
  | rr hole e e2 n l=>obtain⟨v,e1,e2⟩:=this;exact⟨v,e1,cu.step (o:=.rr hole e _ n l) e2 hs (fun _ h=>h.elim) (fun _ hb=>.inl hb) (.refl _) (fun _ _ h=>h)⟩
  | fwd k=>exact this
 ·exact h.frame.trans (hs.mono (fun _ h=>h.elim))
theorem Rel.change{Y:Nat→Prop}(h:Rel w0 F Xc ρ0 ρ st a w)(objs':List O)(ρ':nP)(K:Nat→Prop)(hs:cg Y w w')
 (bx:∀j,¬K j→objs'[j]?=st.ae[j]?∧ρ' j=ρ j) (hρ:gj ρ ρ')
 (hY:∀b,Y b→∃j,K j∧Has st.ae ρ j b)
 (hnew:∀j b,K j→Has objs' ρ' j b→(∃j',K j'∧Has st.ae ρ j' b)∨w.heap.size≤b)
 (hsep:∀j j' b,K j→K j'→Has objs' ρ' j b→Has objs' ρ' j' b→j=j')
 (hok:(∀b,XB objs' ρ' Xc b→XB st.ae ρ Xc b∨w.heap.size≤b)→∀j o,K j→objs'[j]?=some o→Uv w' (XB objs' ρ' Xc) ρ' j o)
 (hpar:∀j,j<st.np→ρ' j=ρ j):Rel w0 F Xc ρ0 ρ' { st with ae:=objs' } a w':=by
 have hYX:∀b,Y b→XB st.ae ρ Xc b:=fun b hb=>by
  obtain⟨j,_,hj⟩:=hY b hb
  exact .inl ⟨j,hj⟩
 have hHas:∀j b,¬K j→Has objs' ρ' j b→Has st.ae ρ j b:=fun j b hj hh=>by
  obtain⟨o,v,h1,h2,h3,h4⟩:=hh
  obtain⟨e1,e2⟩:=bx j hj
  exact⟨o,v,e1▸h1,h2,e2▸h3,h4⟩
 have hX:∀b,XB objs' ρ' Xc b→XB st.ae ρ Xc b∨w.heap.size≤b:=fun b hb=>by
  rcases hb with⟨j,hj⟩ | hb
  ·by_cases hK:K j
   ·rcases hnew j b hK hj with⟨j',_,hh⟩ | hh
    ·exact .inl (.inl ⟨j',hh⟩)
    ·exact .inr hh
   ·exact .inl (.inl ⟨j,hHas j b hK hj⟩)
  ·exact .inl (.inr hb)
 refine⟨h.len,fun i d y h1 h2=>(h.env i d y h1 h2).step hs hYX hX hρ,fun j o ho=>?_,fun j j' b hj hj'=>?_,fun b hb=>?_,fun k hk=>(hpar k hk).trans (h.par k hk),h.defers,?_,h.jm,fun b hb hx=>?_,fun p hp=>(h.ext p hp).step hs hYX hX hρ⟩
 ·by_cases hK:K j
  ·exact hok hX j o hK ho
  ·obtain⟨e1,e2⟩:=bx j hK
   have ho':st.ae[j]?=some o:=e1▸ho
   have:=h.ae j o ho'
   cases o with
   | dead=>trivial
   | fresh=>exact e2.trans this
   | box l=>
    obtain⟨v,f1,f2⟩:=this
    refine⟨v,hρ _ _ f1,f2.step hs hYX hX hρ fun b hb hy=>?_⟩
    obtain⟨j',hK',hj'⟩:=hY b hy
    have:=h.sep j j' b ⟨_,v,ho',rfl,f1,hb⟩ hj'
    exact hK (this▸hK')
   | row fz e n l=>
    obtain⟨v,f1,f2⟩:=this
    refine⟨v,hρ _ _ f1,f2.step hs hYX hX hρ fun b hb hy=>?_⟩
    obtain⟨j',hK',hj'⟩:=hY b hy
    cases fz with
    | false=>
     have:=h.sep j j' b ⟨_,v,ho',rfl,f1,hb⟩ hj'
     exact hK (this▸hK')
    | true=>exact f2.2.2.2 rfl b (hb.one (by obtain⟨xs,hown,_⟩:=f2.2.2.1;exact hown.one)) (.inl ⟨j',hj'⟩)
   | mp fz e n l=>
    obtain⟨v,f1,f2⟩:=this
    refine⟨v,hρ _ _ f1,f2.step hs hYX hX hρ fun b hb hy=>?_⟩
    obtain⟨j',hK',hj'⟩:=hY b hy
    cases fz with
    | false=>
     have:=h.sep j j' b ⟨_,v,ho',rfl,f1,hb⟩ hj'
     exact hK (this▸hK')
    | true=>
     obtain⟨_,g,es,clock,e',hg,_,hf⟩:=f2
     replace hb:=hb.one (by rw[e'];rfl)
     simp[e',bq] at hb
     subst hb
     exact hf rfl (.inl ⟨j',hj'⟩)
   | cv l=>
    obtain⟨v,f1,f2⟩:=this
    refine⟨v,hρ _ _ f1,f2.step hs hYX hX hρ fun b hb hy=>?_⟩
    obtain⟨j',hK',hj'⟩:=hY b hy
    obtain⟨g,ys,ty,e',hg,_,hf⟩:=f2
    replace hb:=hb.one (by rw[e'];rfl)
    simp[e',bq] at hb
    subst hb
    exact hf (.inl ⟨j',hj'⟩)
   | rr hole e e2 n l=>
    obtain⟨v,f1,f2⟩:=this
    refine⟨v,hρ _ _ f1,cu.step (o:=.rr hole e e2 n l) (ρ:=ρ) f2 hs hYX hX hρ fun b hb hy=>?_⟩
    obtain⟨j',hK',hj'⟩:=hY b hy
    have:=h.sep j j' b ⟨_,v,ho',rfl,f1,hb⟩ hj'
    exact hK (this▸hK')
   | fwd k=>
    obtain⟨v,f1,vs,vs',g1,g2,g3⟩:=this
    exact⟨v,hρ _ _ f1,vs,vs',g1,hρ _ _ g2,g3⟩
 ·by_cases hK:K j <;> by_cases hK':K j'
  ·exact hsep j j' b hK hK' hj hj'
  ·exfalso
   have h2:=hHas j' b hK' hj'
   rcases hnew j b hK hj with⟨j'',hK'',hh⟩ | hh
   ·have:=h.sep j'' j' b hh h2
    exact hK' (this▸hK'')
   ·have:=h.lt h2.kn
    omega
  ·exfalso
   have h2:=hHas j b hK hj
   rcases hnew j' b hK' hj' with⟨j'',hK'',hh⟩ | hh
   ·have:=h.sep j'' j b hh h2
    exact hK (this▸hK'')
   ·have:=h.lt h2.kn
    omega
  ·exact h.sep j j' b (hHas j b hK hj) (hHas j' b hK' hj')
 ·obtain⟨j,hj⟩:=hb
  by_cases hK:K j
  ·rcases hnew j b hK hj with⟨j',_,hh⟩ | hh
   ·exact h.own b ⟨j',hh⟩
   ·exact .inl (H7 h.frame.size hh)
  ·exact h.own b ⟨j,hHas j b hK hj⟩
 ·refine h.frame.after hs fun b hb hlt=>?_
  obtain⟨j,_,hj⟩:=hY b hb
  rcases h.own b ⟨j,hj⟩ with hh | hh
  ·omega
  ·exact hh
 ·obtain⟨j,hj⟩:=hb
  have hlt:=h.jm b hx
  have hsz:=h.frame.size
  by_cases hK:K j
  ·rcases hnew j b hK hj with⟨j',_,hh⟩ | hh
   ·exact h.xc b ⟨j',hh⟩ hx
   ·omega
  ·exact h.xc b ⟨j,hHas j b hK hj⟩ hx
def eo:Value→D
 | .agg cs=>if cs.all (fun v=>v.oneCell') then .s (.agg (cs.toList.map fun v=>.t (.v v))) else D.top
 | .tuple _=>D.top
 | v=>.s (.c (.t (.v v)))
def ev(st:St):Operand→D
 | .tmp t=>st.env.getD t D.top
 | .const v=>eo v
 | .global _=>D.top
 | .func f=>.s (.c (.t (.v (.func (.func f) #[] #[]))))
theorem bc.top_{X:Nat→Prop}(y:Value):bc w X ρ D.top y:=.inl rfl
theorem bc.one{X:Nat→Prop}{c:C}{y:Value}(h:ib w X ρ c y)(h1:y.oneCell'=true):bc w X ρ (.s (.c c)) y:=.inr ⟨h,h1⟩
theorem bc.val{X:Nat→Prop}{y:Value}(h1:y.oneCell'=true):bc w X ρ (.s (.c (.t (.v y)))) y:=.one (.v y) h1
theorem bc.eo{X:Nat→Prop}(v:Value):bc w X ρ (eo v) v:=by
 unfold Eng.eo
 split
 ·rename_i cs
  split
  ·rename_i hall
   refine⟨cs,rfl,by simp,fun i c y h1 h2=>?_⟩
   rw[fF,h2] at h1
   cases h1
   rw[Array.all_eq_true'] at hall
   exact .inr ⟨.v y,hall y (by rw[←Array.mem_toList_iff];exact mM h2)⟩
  ·exact .top_ _
 ·exact .top_ _
 ·rename_i h1 h2
  refine .val ?_
  cases v <;> first | rfl | exact(h1 _ rfl).elim | exact(h2 _ rfl).elim
theorem Rel.ev(h:Rel w0 F Xc ρ0 ρ st a w)(x:Operand):bc w (XB st.ae ρ Xc) ρ (ev st x) (a.eval x):=by
 cases x with
 | tmp t=>
  simp only[Eng.ev,Act.eval]
  rcases OM t st.env.length with hl | hl
  ·have hl':t<a.tmps.size:=by rw[h.len];exact hl
   rw[jY,dH hl]
   rw[MJ,uV hl']
   exact h.env t _ _ (dH hl) (uV hl')
  ·rw[jY,tJ hl]
   exact .top_ _
 | const v=>exact .eo v
 | global g=>exact .top_ _
 | func f=>exact .val rfl
end
def ob{α R:Type}(m:Option α)(k:α→Option R):Option R:=match m with
 | some a=>k a
 | none=>none
theorem bO{α R:Type}{m:Option α}{k:α→Option R}{r:R}(h:ob m k=some r):∃a,m=some a∧k a=some r:=by
 cases m with
 | none=>cases h
 | some a=>exact⟨a,rfl,h⟩
@[irreducible] def wr(k:IntKind)(n:Int):Int:=k.wrap n
@[irreducible] def dJ(a b:Int):Bool:=a==b
@[irreducible] def nQ(a b:Int):Bool:=decide (a<b)
@[irreducible] def A5(a b:Int):Bool:=decide (a≤b)
@[irreducible] def cF(a b:Int):Int:=a+b
@[irreducible] def pE(a b:Int):Int:=a-b
@[irreducible] def uC(a b:Int):Int:=a*b
@[irreducible] def A1(a b:Int):Int:=a.tdiv b
@[irreducible] def uD(a b:Int):Int:=a.tmod b
@[irreducible] def nz(b:Int):Option Int:=if b=0 then none else some b
@[irreducible] def nn(b:Int):Option Int:=if b<0 then none else some b
@[irreducible] def Uy(k:IntKind)(x y:Int):Int:=x*2 ^ (min y.toNat k.bits)
@[irreducible] def Uz(k:IntKind)(x y:Int):Int:=x.fdiv (2 ^ (min y.toNat k.bits))
@[irreducible] def JF(op:BinOp)(k:IntKind)(x y:Int):Int:=match op with
 | .and=>k.wrap ((BitVec.ofInt k.bits x &&& BitVec.ofInt k.bits y).toNat:Int)
 | .or=>k.wrap ((BitVec.ofInt k.bits x ||| BitVec.ofInt k.bits y).toNat:Int)
 | .xor=>k.wrap ((BitVec.ofInt k.bits x ^^^ BitVec.ofInt k.bits y).toNat:Int)
 | _=>k.wrap ((BitVec.ofInt k.bits x &&& ~~~ BitVec.ofInt k.bits y).toNat:Int)
@[irreducible] def Od(a b:ByteArray):Bool:=a.toList==b.toList
@[irreducible] def Og(a b:ByteArray):Bool:=Op.bytesLess a.toList b.toList
@[irreducible] def Va(a b:ByteArray):Option ByteArray:=if ((a.size+b.size:Nat):Int) > IntKind.i64.max then none else some (a++b)
@[irreducible] def Oh(a:ByteArray):Int:=a.size
@[irreducible] def Vb(s:ByteArray)(lo hi:Int):Option ByteArray:=if 0≤hi∧hi≤s.size∧0≤lo∧lo≤hi then some (s.extract lo.toNat hi.toNat) else none
@[irreducible] def Is(a b:Bool):Bool:=a==b
def dI(k:IntKind)(n:Int):D:=.s (.c (.t (.v (.int k n))))
def dB(b:Bool):D:=.s (.c (.t (.v (.bool b))))
def dS(s:ByteArray):D:=.s (.c (.t (.v (.string s))))
def T.int?(k:IntKind):T→Option Int
 | .v (.int k' n)=>if k'=k then some n else none
 | _=>none
def T.bool?:T→Option Bool
 | .v (.bool b)=>some b
 | _=>none
def T.il:T→Option ByteArray
 | .v (.string s)=>some s
 | _=>none
def T.im(k:Nat):T→Option (List T)
 | .v (.slice none 0 0)=>if k<1000000000 then some [] else none
 | .sl k' l=>if k'=k then some l else none
 | _=>none
def T.kf(k:Nat)(x:T):Option (List T):=if k<1000000000 then x.im k else none
theorem T.fh{k:Nat}{x:T}{l:List T}(h:x.kf k=some l):k<1000000000∧x.im k=some l:=by
 unfold T.kf at h
 split at h
 ·rename_i hk;exact⟨hk,h⟩
 ·cases h
section
variable {R:Type}
def zN(d:D)(f:C→Option R):Option R:=match d with
 | .s (.c x)=>f x
 | _=>none
def O3(d:D)(f:T→Option R):Option R:=match d with
 | .s (.c (.t x))=>f x
 | _=>none
def RV(k:IntKind)(d:D)(f:Int→Option R):Option R:=O3 d fun x=>ob (x.int? k) f
def RW(d:D)(f:Bool→Option R):Option R:=O3 d fun x=>ob x.bool? f
def RR(d:D)(f:ByteArray→Option R):Option R:=O3 d fun x=>ob x.il f
variable {w:World} {X:Nat→Prop} {ρ:nP} {d:D} {y:Value} {r:R}
theorem UO{f:T→Option R}(h:bc w X ρ d y)(hf:O3 d f=some r):∃x,d=.s (.c (.t x))∧Rd w X x y∧y.oneCell'=true∧f x=some r:=by
 unfold O3 at hf
 split at hf
 ·rename_i x
  rcases h with h | ⟨h1,h2⟩
  ·cases h
  ·exact⟨x,rfl,h1,h2,hf⟩
 ·cases hf
theorem uX{f:C→Option R}(h:bc w X ρ d y)(hf:zN d f=some r):∃x,d=.s (.c x)∧cm w X ρ x y∧f x=some r:=by
 unfold zN at hf
 split at hf
 ·rename_i x
  exact⟨x,rfl,h,hf⟩
 ·cases hf
theorem UP{k:IntKind}{x:T}{n:Int}(h:Rd w X x y)(hx:x.int? k=some n):y=.int k n:=by
 unfold T.int? at hx
 split at hx
 ·split at hx
  ·rename_i hk;cases hx;subst hk;exact h.cr
  ·cases hx
 ·cases hx
theorem UQ{x:T}{b:Bool}(h:Rd w X x y)(hx:x.bool?=some b):y=.bool b:=by
 unfold T.bool? at hx
 split at hx
 ·cases hx;exact h.cr
 ·cases hx
theorem Z3{x:T}{s:ByteArray}(h:Rd w X x y)(hx:x.il=some s):y=.string s:=by
 unfold T.il at hx
 split at hx
 ·cases hx;exact h.cr
 ·cases hx
theorem zZ{k:IntKind}{f:Int→Option R}(h:bc w X ρ d y)(hf:RV k d f=some r):∃n,y=.int k n∧f n=some r:=by
 obtain⟨x,_,hx,_,hf⟩:=UO h hf
 obtain⟨n,hn,hf⟩:=bO hf
 exact⟨n,UP hx hn,hf⟩
theorem BN{f:Bool→Option R}(h:bc w X ρ d y)(hf:RW d f=some r):∃n,y=.bool n∧f n=some r:=by
 obtain⟨x,_,hx,_,hf⟩:=UO h hf
 obtain⟨n,hn,hf⟩:=bO hf
 exact⟨n,UQ hx hn,hf⟩
theorem BO{f:ByteArray→Option R}(h:bc w X ρ d y)(hf:RR d f=some r):∃n,y=.string n∧f n=some r:=by
 obtain⟨x,_,hx,_,hf⟩:=UO h hf
 obtain⟨n,hn,hf⟩:=bO hf
 exact⟨n,Z3 hx hn,hf⟩
theorem bc.int(k:IntKind)(n:Int):bc w X ρ (dI k n) (.int k n):=.val rfl
theorem bc.bool(b:Bool):bc w X ρ (dB b) (.bool b):=.val rfl
theorem bc.str(s:ByteArray):bc w X ρ (dS s) (.string s):=.val rfl
end
section
variable {R:Type}
def uY(op:BinOp)(k:IntKind)(a b:Int)(f:D→Option R):Option R:=match op with
 | .add=>f (dI k (wr k (cF a b)))
 | .sub=>f (dI k (wr k (pE a b)))
 | .mul=>f (dI k (wr k (uC a b)))
 | .quo=>ob (nz b) fun b=>f (dI k (wr k (A1 a b)))
 | .rem=>ob (nz b) fun b=>f (dI k (uD a b))
 | .and=>f (dI k (JF .and k a b))
 | .or=>f (dI k (JF .or k a b))
 | .xor=>f (dI k (JF .xor k a b))
 | .andNot=>f (dI k (JF .andNot k a b))
 | .eql=>f (dB (dJ a b))
 | .neq=>f (dB (!dJ a b))
 | .lss=>f (dB (nQ a b))
 | .leq=>f (dB (A5 a b))
 | .gtr=>f (dB (nQ b a))
 | .geq=>f (dB (A5 b a))
 | _=>none
def SR(op:BinOp)(a b:ByteArray)(f:D→Option R):Option R:=match op with
 | .add=>ob (Va a b) fun s=>f (dS s)
 | .eql=>f (dB (Od a b))
 | .neq=>f (dB (!Od a b))
 | .lss=>f (dB (Og a b))
 | .leq=>f (dB (Og a b||Od a b))
 | .gtr=>f (dB (!(Og a b||Od a b)))
 | .geq=>f (dB (!Og a b))
 | _=>none
def GH(op:BinOp)(k:IntKind)(a b:Int)(f:D→Option R):Option R:=match op with
 | .shl=>ob (nn b) fun b=>f (dI k (wr k (Uy k a b)))
 | .shr=>ob (nn b) fun b=>f (dI k (Uz k a b))
 | _=>none
def NV:BinOp→Bool
 | .shl | .shr=>true
 | _=>false
variable (P:Program)
def Fb(op:BinOp)(ty yty:TypeId)(x y:D)(f:D→Option R):Option R:=
 match P.underlying ty with
 | some (.int k)=>
  if NV op then
   match P.underlying yty with
   | some (.int k')=>RV k x fun a=>RV k' y fun b=>GH op k a b f
   | _=>none
  else RV k x fun a=>RV k y fun b=>uY op k a b f
 | some .string=>RR x fun a=>RR y fun b=>SR op a b f
 | some .bool=>if op=.eql then RW x fun a=>RW y fun b=>f (dB (Is a b)) else if op=.neq then RW x fun a=>RW y fun b=>f (dB (!Is a b)) else none
 | _=>none
variable {P} {w:World} {X:Nat→Prop} {ρ:nP} {r:R}
theorem Iu{op:BinOp}{k:IntKind}{a b:Int}{f:D→Option R}(hop:NV op=false)(h:uY op k a b f=some r)(t:TypeId):
 ∃d v,(binOp op t (.int k a) (.int k b)).run P w=.ok v w∧bc w X ρ d v∧f d=some r:=by
 have hI:∀n,bc w X ρ (dI k n) (.int k n):=fun n=>.int k n
 have hB:∀n,bc w X ρ (dB n) (.bool n):=fun n=>.bool n
 cases op
 case shl=>simp[NV] at hop
 case shr=>simp[NV] at hop
 case add=>exact⟨_,_,by simp only[binOp,uW,A4,iD,Op.intArith];rfl,hI _,by simpa only[uY,wr,cF] using h⟩
 case sub=>exact⟨_,_,by simp only[binOp,uW,A4,iD,Op.intArith];rfl,hI _,by simpa only[uY,wr,pE] using h⟩
 case mul=>exact⟨_,_,by simp only[binOp,uW,A4,iD,Op.intArith];rfl,hI _,by simpa only[uY,wr,uC] using h⟩
 case and=>exact⟨_,_,by simp only[binOp,uW,A4,iD,Op.intBits];rfl,hI _,by simpa only[uY,JF] using h⟩
 case or=>exact⟨_,_,by simp only[binOp,uW,A4,iD,Op.intBits];rfl,hI _,by simpa only[uY,JF] using h⟩
 case xor=>exact⟨_,_,by simp only[binOp,uW,A4,iD,Op.intBits];rfl,hI _,by simpa only[uY,JF] using h⟩
 case andNot=>exact⟨_,_,by simp only[binOp,uW,A4,iD,Op.intBits];rfl,hI _,by simpa only[uY,JF] using h⟩
 case eql=>exact⟨_,_,by simp only[binOp,uW,A4,iD,Op.intCmp];rfl,hB _,by simpa only[uY,dJ] using h⟩
 case neq=>exact⟨_,.bool (!(a==b)),by simp only[binOp,uW,A4,iD,Op.intCmp];rfl,hB _,by simpa only[uY,dJ] using h⟩
 case lss=>exact⟨_,_,by simp only[binOp,uW,A4,iD,Op.intCmp];rfl,hB _,by simpa only[uY,nQ] using h⟩
 case leq=>exact⟨_,_,by simp only[binOp,uW,A4,iD,Op.intCmp];rfl,hB _,by simpa only[uY,A5] using h⟩
 case gtr=>exact⟨_,_,by simp only[binOp,uW,A4,iD,Op.intCmp];rfl,hB _,by simpa only[uY,nQ] using h⟩
 case geq=>exact⟨_,_,by simp only[binOp,uW,A4,iD,Op.intCmp];rfl,hB _,by simpa only[uY,A5] using h⟩
 all_goals
  simp only[uY] at h
  obtain⟨b',hb,h⟩:=bO h
  unfold nz at hb
  split at hb
  ·cases hb
  ·rename_i hne
   cases hb
   refine⟨_,_,?_,hI _,h⟩
   simp only[binOp,uW,A4,iD,Op.intDiv,hne,wr,A1,uD]
   rfl
theorem Z4{op:BinOp}{k k':IntKind}{a b:Int}{f:D→Option R}(h:GH op k a b f=some r)(t:TypeId):
 ∃d v,(binOp op t (.int k a) (.int k' b)).run P w=.ok v w∧bc w X ρ d v∧f d=some r:=by
 cases op <;> simp only[GH] at h <;> first
  | (cases h;done)
  | (obtain⟨b',hb,h⟩:=bO h
     unfold nn at hb
     split at hb
     ·cases hb
     ·rename_i hne
      cases hb
      refine⟨_,_,?_,.int k _,h⟩
      simp only[binOp,Op.shift,hne,iD,wr,Uy,Uz]
      rfl)
theorem Iv{op:BinOp}{a b:ByteArray}{f:D→Option R}(h:SR op a b f=some r)(t:TypeId):
 ∃d v,(binOp op t (.string a) (.string b)).run P w=.ok v w∧bc w X ρ d v∧f d=some r:=by
 have hB:∀n,bc w X ρ (dB n) (.bool n):=fun n=>.bool n
 cases op <;> simp only[SR] at h <;> first
  | (cases h;done)
  | (refine⟨_,_,?_,hB _,h⟩;simp[binOp,Op.stringOp,Od,Og];done)
  | (obtain⟨b',hb,h⟩:=bO h
     unfold Va at hb
     split at hb
     ·cases hb
     ·rename_i hne
      cases hb
      refine⟨_,_,?_,.str _,h⟩
      simp only[binOp,Op.stringOp,hne,iD,Sem.run_pure])
theorem EZ{op:BinOp}{t:TypeId}{x y:Operand}{a b:Value}(h1:∀cs,a≠.agg cs)(h2:a≠.nilIface):(eqGuard op t x y a b).run P w=.ok () w:=by
 unfold eqGuard
 cases a <;> first | exact(h2 rfl).elim | exact(h1 _ rfl).elim | (cases op <;> rfl)
theorem E0{ty:TypeId}(hu:P.underlying ty=some .bool)(a b:Bool):(Op.equal ty (.bool a) (.bool b)).run P w=.ok (a==b) w:=by
 have h:∀d:Nat,(Op.equalIn (d+1) ty (.bool a) (.bool b)).run P w=.ok (a==b) w:=fun d=>by
  simp only[Op.equalIn,Sem.run_bind,run_underlying hu,Result.andThen_ok];rfl
 exact h 9999
theorem Oi{op:BinOp}{ty yty:TypeId}{x y:D}{xo yo:Operand}{vx vy:Value}{f:D→Option R}(hx:bc w X ρ x vx)(hy:bc w X ρ y vy)(h:Fb P op ty yty x y f=some r):
 ∃d v,(do eqGuard op ty xo yo vx vy;binOp op ty vx vy:Sem Value).run P w=.ok v w∧bc w X ρ d v∧f d=some r:=by
 have key:∀{vx vy:Value} {v:Value},(∀cs,vx≠.agg cs)→vx≠.nilIface→(binOp op ty vx vy).run P w=.ok v w→(do eqGuard op ty xo yo vx vy;binOp op ty vx vy:Sem Value).run P w=.ok v w:=by
  intro vx vy v h1 h2 h3
  simp only[Sem.run_bind,EZ h1 h2,Result.andThen_ok,h3]
 unfold Fb at h
 split at h
 ·split at h
  ·split at h
   ·obtain⟨a,rfl,h⟩:=zZ hx h
    obtain⟨b,rfl,h⟩:=zZ hy h
    obtain⟨d,v,h1,h2,h3⟩:=Z4 (P:=P) (w:=w) (X:=X) (ρ:=ρ) h ty
    exact⟨d,v,key (by simp) (by simp) h1,h2,h3⟩
   ·cases h
  ·rename_i hs
   obtain⟨a,rfl,h⟩:=zZ hx h
   obtain⟨b,rfl,h⟩:=zZ hy h
   obtain⟨d,v,h1,h2,h3⟩:=Iu (P:=P) (w:=w) (X:=X) (ρ:=ρ) (by simpa using hs) h ty
   exact⟨d,v,key (by simp) (by simp) h1,h2,h3⟩
 ·obtain⟨a,rfl,h⟩:=BO hx h
  obtain⟨b,rfl,h⟩:=BO hy h
  obtain⟨d,v,h1,h2,h3⟩:=Iv (P:=P) (w:=w) (X:=X) (ρ:=ρ) h ty
  exact⟨d,v,key (by simp) (by simp) h1,h2,h3⟩
 ·rename_i hu
  split at h
  ·rename_i ho
   subst ho
   obtain⟨a,rfl,h⟩:=BN hx h
   obtain⟨b,rfl,h⟩:=BN hy h
   refine⟨_,_,key (v:=.bool (a==b)) (by simp) (by simp) ?_,.bool _,by simpa only[Is] using h⟩
   show (do pure (.bool (←Op.equal ty (.bool a) (.bool b))):Sem Value).run P w=_
   simp only[Sem.run_bind,E0 hu,Result.andThen_ok,Sem.run_pure]
  ·split at h
   ·rename_i ho
    subst ho
    obtain⟨a,rfl,h⟩:=BN hx h
    obtain⟨b,rfl,h⟩:=BN hy h
    refine⟨_,_,key (v:=.bool (!(a==b))) (by simp) (by simp) ?_,.bool _,by simpa only[Is] using h⟩
    show (do pure (.bool (!(←Op.equal ty (.bool a) (.bool b)))):Sem Value).run P w=_
    simp only[Sem.run_bind,E0 hu,Result.andThen_ok,Sem.run_pure]
   ·cases h
 ·cases h
def Se(op:UnOp)(ty:TypeId)(x:D)(f:D→Option R):Option R:=
 match op,P.underlying ty with
 | .neg,some (.int k)=>RV k x fun a=>f (dI k (wr k (pE 0 a)))
 | .xor,some (.int k)=>RV k x fun a=>f (dI k (JF .xor k (if k.signed then -1 else k.max) a))
 | .not,_=>RW x fun a=>f (dB (!a))
 | _,_=>none
theorem Sf{op:UnOp}{ty:TypeId}{x:D}{vx:Value}{f:D→Option R}(hx:bc w X ρ x vx)(h:Se (P:=P) op ty x f=some r):
 ∃d v,(Op.unary op vx).run P w=.ok v w∧bc w X ρ d v∧f d=some r:=by
 unfold Se at h
 split at h
 ·obtain⟨a,rfl,h⟩:=zZ hx h
  exact⟨_,_,by simp[Op.unary,Op.intArith,wr,pE],.int _ _,h⟩
 ·obtain⟨a,rfl,h⟩:=zZ hx h
  exact⟨_,_,by simp[Op.unary,Op.intBits,JF],.int _ _,h⟩
 ·obtain⟨a,rfl,h⟩:=BN hx h
  exact⟨_,_,by simp[Op.unary],.bool _,h⟩
 ·cases h
end
section
variable {R:Type} (P:Program)
def I2(t:TypeId):Option Nat:=(P.info? t).map (·.size)
def IB(t:TypeId):Option Bool:=match P.underlying t with
 | some (.struct _) | some (.array _ _)=>some true
 | some _=>some false
 | none=>none
variable {P} {w:World}
theorem iL{t:TypeId}{n:Nat}(h:I2 P t=some n)(w:World):(sizeOf t).run P w=.ok n w:=by
 unfold I2 at h
 cases hi:P.info? t with
 | none=>simp[hi] at h
 | some i=>simp only[hi,fA,cG] at h;simp[sizeOf,typeInfo,hi,h]
theorem LA{t:TypeId}{b:Bool}(h:IB P t=some b)(w:World):(isAgg t).run P w=.ok b w:=by
 unfold IB at h
 unfold isAgg
 cases hu:P.underlying t with
 | none=>simp[hu] at h
 | some d=>
  rw[hu] at h
  simp only[Sem.run_bind,run_underlying hu,Result.andThen_ok]
  cases d <;> simp at h <;> subst h <;> rfl
end
def E3:D→Option (List C)
 | .s (.c .top)=>none
 | .s (.c c)=>some [c]
 | .s (.agg l)=>some l
 | .eg _=>none
section
variable {w:World} {X:Nat→Prop} {ρ:nP}
theorem ST{y:Value}(h:y.oneCell'=true):y.cells=#[y]:=by
 cases y <;> first | rfl | simp[Value.oneCell'] at h
theorem CA{d:D}{y:Value}{cs:List C}(h:bc w X ρ d y)(hd:E3 d=some cs):bw w X ρ cs y.cells.toList:=by
 unfold E3 at hd
 split at hd
 ·cases hd
 ·rename_i c hc
  cases hd
  rcases h with h | ⟨h1,h2⟩
  ·exact(hc h).elim
  ·rw[ST h2]
   refine⟨rfl,fun i c' y' e1 e2=>?_⟩
   cases i with
   | zero=>simp at e1 e2;subst e1;subst e2;exact .inr ⟨h1,h2⟩
   | succ i=>simp at e1
 ·cases hd
  obtain⟨cs',rfl,hl⟩:=h
  exact hl
 ·cases hd
theorem bw.drop{l:List C}{ys:List Value}(h:bw w X ρ l ys)(n:Nat):bw w X ρ (l.drop n) (ys.drop n):=
 ⟨by simp[h.1],fun i c y h1 h2=>h.2 (n+i) c y (by simpa using h1) (by simpa using h2)⟩
theorem bw.take{l:List C}{ys:List Value}(h:bw w X ρ l ys)(n:Nat):bw w X ρ (l.take n) (ys.take n):=by
 refine⟨by simp[h.1],fun i c y h1 h2=>?_⟩
 rw[pT] at h1 h2
 split at h1
 ·rename_i hi
  rw[aC hi] at h2
  exact h.2 i c y h1 h2
 ·cases h1
theorem bw.append{l m:List C}{ys zs:List Value}(h:bw w X ρ l ys)(h':bw w X ρ m zs):bw w X ρ (l++m) (ys++zs):=by
 refine⟨by simp[h.1,h'.1],fun i c y h1 h2=>?_⟩
 rw[rR] at h1 h2
 have hl:=h.1
 by_cases hi:i<l.length
 ·rw[aC hi] at h1
  rw[aC (by omega)] at h2
  exact h.2 i c y h1 h2
 ·rw[aA hi] at h1
  rw[aA (by omega)] at h2
  rw[hl] at h2
  exact h'.2 _ c y h1 h2
theorem bw.one{c:C}{y:Value}(h:cm w X ρ c y):bw w X ρ [c] [y]:=by
 refine⟨rfl,fun i c' y' h1 h2=>?_⟩
 cases i with
 | zero=>simp at h1 h2;subst h1;subst h2;exact h
 | succ i=>simp at h1
def Yd:C→Bool
 | .top=>false
 | _=>true
theorem bw.mh{l:List C}{ys:List Value}(h:bw w X ρ l ys)(ho:l.all Yd=true):∀v∈ys,v.oneCell'=true:=by
 intro v hv
 obtain⟨i,hi,rfl⟩:=B7 hv
 have hl:=h.1
 have hil:i<l.length:=by omega
 have hc:=h.2 i l[i] ys[i] (dH hil) (dH hi)
 rcases hc with hc | hc
 ·have:=jF.1 ho _ (OL hil)
  rw[hc] at this
  cases this
 ·exact hc.2
end
def O4(place:Nat→Option (Nat×Nat))(cells:List C):List (Nat×D)→Option (List C)
 | []=>some cells
 | (i,d)::rest=>match place i,E3 d with
  | some (off,size),some cs=>if cs.length=size∧off+size≤cells.length then O4 place (cells.take off++cs++cells.drop (off+size)) rest else none
  | _,_=>none
theorem WT(vs:List Value):∀(i off:Nat) (arr:Array Value),off+i+vs.length≤arr.size →
 ((vs.zipIdx i).foldl (fun(cs:Array Value) (x:Value×Nat)=>cs.setIfInBounds (off+x.2) x.1) arr).toList=arr.toList.take (off+i)++vs++arr.toList.drop (off+i+vs.length):=by
 induction vs with
 | nil=>intro i off arr h;simp
 | cons v vs ih=>
  intro i off arr h
  simp only[oA] at h
  rw[List.zipIdx_cons,List.foldl_cons,ih (i+1) off _ (by simp;omega)]
  have:=list_seg_step arr.toList (off+i) v vs (by simp;omega)
  simp only[Array.toList_setIfInBounds,oA]
  rw[←T3,this]
section
variable {w:World} {X:Nat→Prop} {ρ:nP}
theorem JG(place:Nat→Option (Nat×Nat)):∀(parts:List (Nat×D)) (vparts:List (Nat×Value)) (cells:List C) (ys:Array Value) (cs':List C),
 bw w X ρ cells ys.toList→parts.length=vparts.length→(∀(i:Nat) p q,parts[i]?=some p→vparts[i]?=some q→p.1=q.1∧bc w X ρ p.2 q.2) →
 O4 place cells parts=some cs'→∃ys',Instr.fill place ys vparts=some ys'∧bw w X ρ cs' ys'.toList
 | [],[],cells,ys,cs',h,_,_,hf=>by
  simp only[O4,cG] at hf
  subst hf
  exact⟨ys,rfl,h⟩
 | (i,d)::rest,(i',v)::vrest,cells,ys,cs',h,hlen,hp,hf=>by
  obtain⟨rfl,hd⟩:=hp 0 _ _ rfl rfl
  simp only at hd
  simp only[O4] at hf
  split at hf
  ·rename_i off size cs hpl hdc
   split at hf
   ·rename_i hc
    have hl:=CA hd hdc
    have hsz:v.cells.size=size:=by have:=hl.1;rw[mO] at this;omega
    have hcl:=h.1
    rw[mO] at hcl
    have hfs:=WT v.cells.toList 0 off ys (by rw[mO];omega)
    simp only[rH] at hfs
    have hnew:bw w X ρ (cells.take off++cs++cells.drop (off+size)) (v.cells.zipIdx.foldl (fun cs (c,j)=>cs.setIfInBounds (off+j) c) ys).toList:=by
     rw[←Array.foldl_toList,Array.toList_zipIdx]
     rw[show (fun(cs:Array Value) (x:Value×Nat)=>match x with | (c,j)=>cs.setIfInBounds (off+j) c)=fun cs x=>cs.setIfInBounds (off+x.2) x.1 from rfl,hfs,mO,hsz]
     exact((h.take off).append hl).append (h.drop (off+size))
    obtain⟨ys',h1,h2⟩:=JG place rest vrest _ _ cs' hnew (by simpa using hlen) (fun j p q e1 e2=>hp (j+1) p q (by simpa using e1) (by simpa using e2)) hf
    refine⟨ys',?_,h2⟩
    simp only[Instr.fill,hpl]
    rw[aA (by simp[hsz];omega)]
    exact h1
   ·cases hf
  ·cases hf
 | [],_::_,_,_,_,_,hlen,_,_=>by simp at hlen
 | _::_,[],_,_,_,_,hlen,_,_=>by simp at hlen
end
def UR(l:List C)(off n:Nat)(agg:Bool):Option S1:=
 if agg then (if off+n≤l.length then some (.agg ((l.drop off).take n)) else none) else (l[off]?).map .c
section
variable {P:Program} {w:World} {X:Nat→Prop} {ρ:nP}
theorem NW{l:List C}{cs:Array Value}{t:TypeId}{off n:Nat}{b:Bool}{s:S1}(h:bw w X ρ l cs.toList)(hn:I2 P t=some n)(hb:IB P t=some b)(hs:UR l off n b=some s):
 ∃v,(part t cs off).run P w=.ok v w∧en w X ρ s v:=by
 unfold UR at hs
 have hl:=h.1
 rw[mO] at hl
 unfold part
 simp only[Sem.run_bind,LA hb,Result.andThen_ok]
 cases b with
 | true=>
  simp only[eY] at hs ⊢
  split at hs
  ·cases hs
   refine⟨_,by simp only[Sem.run_bind,iL hn,Result.andThen_ok,Sem.run_pure];rfl,_,rfl,?_⟩
   rw[Array.toList_extract,List.extract_eq_take_drop,T1]
   exact(h.drop off).take n
  ·cases hs
 | false=>
  simp only[nL,iD] at hs ⊢
  cases hc:l[off]? with
  | none=>simp[hc] at hs
  | some c=>
   simp only[hc,fA,cG] at hs
   subst hs
   have hlt:off<l.length:=(dL.1 hc).1
   have hv:cs[off]?=some (cs[off]'(by omega)):=uV _
   refine⟨_,by rw[hv];rfl,h.2 off c _ hc (by rw[MH];exact hv)⟩
end
@[irreducible] def dA{α:Type}(l:List α)(i:Int):Option α:=if 0≤i then l[i.toNat]? else none
@[irreducible] def aI{α:Type}(l:List α):Int:=l.length
@[irreducible] def aZ(n i:Int):Option Nat:=if 0≤i∧i<n then some i.toNat else none
@[irreducible] def US(n:Nat):Int:=n
@[irreducible] def Ix(a b:Nat):Nat:=a+b
@[irreducible] def oC{α:Type}(l:List α)(lo len:Nat):List α:=(l.drop lo).take len
@[irreducible] def JH(L l h:Int):Option (Nat×Nat):=if 0≤l∧l≤h∧h≤L then some (l.toNat,(h-l).toNat) else none
@[irreducible] def Sg(L l h m:Int):Option (Nat×Nat):=if 0≤l∧l≤h∧h=m∧h≤L then some (l.toNat,(h-l).toNat) else none
theorem Fc{L l h:Int}{p:Nat×Nat}(hc:JH L l h=some p):0≤l∧l≤h∧h≤L∧p=(l.toNat,(h-l).toNat):=by
 unfold JH at hc
 split at hc
 ·rename_i hh;cases hc;exact⟨hh.1,hh.2.1,hh.2.2,rfl⟩
 ·cases hc
theorem Fd{L l h m:Int}{p:Nat×Nat}(hc:Sg L l h m=some p):0≤l∧l≤h∧h=m∧h≤L∧p=(l.toNat,(h-l).toNat):=by
 unfold Sg at hc
 split at hc
 ·rename_i hh;cases hc;exact⟨hh.1,hh.2.1,hh.2.2.1,hh.2.2.2,rfl⟩
 ·cases hc
def T.cell(x:T)(j:Nat):T:=x.cells.getD j (.v undef)
def A6(x:T)(j n:Nat):List C:=(List.range n).map fun m=>.t (x.cell (j+m))
theorem Fe{α:Type}{l:List α}{i:Int}{x:α}(h:dA l i=some x):0≤i∧l[i.toNat]?=some x:=by
 unfold dA at h
 split at h
 ·exact⟨by assumption,h⟩
 ·cases h
theorem LB{n i:Int}{m:Nat}(h:aZ n i=some m):0≤i∧i<n∧i=m∧i.toNat=m:=by
 unfold aZ at h
 split at h
 ·cases h;omega
 ·cases h
section
variable {w:World} {X:Nat→Prop} {ρ:nP}
theorem ik.cells{n:Nat}{x:T}{a:Addr}(h:ik w X n x a){j m:Nat}(hj:j+m≤n):
 ∃ys:List Value,ys.length=m∧(∀(i:Nat) y,ys[i]?=some y→w.cell? ((a.add j).add i)=some y)∧bw w X ρ (A6 x j m) ys:=by
 obtain⟨h0,ys,hl,hc,ht⟩:=h
 refine⟨(ys.drop j).take m,by simp[hl];omega,fun i y hi=>?_,?_⟩
 ·rw[pT] at hi
  split at hi
  ·rw[tO] at hi
   rw[sK]
   exact(hc _ _ hi).1
  ·cases hi
 ·refine⟨by simp[A6,hl];omega,fun i c y h1 h2=>?_⟩
  simp only[A6,fF,ZF] at h1
  rw[pT] at h2
  split at h2
  ·rename_i hi
   rw[tO] at h2
   rw[ZF hi] at h1
   simp only[fA,cG] at h1
   subst h1
   have hlt:j+i<x.cells.length:=by omega
   refine .inr ⟨?_,(hc _ _ h2).2.2⟩
   have:=ht (j+i) (x.cells[j+i]) y (dH hlt) h2
   simpa[ib,T.cell,jY,dH hlt] using this
  ·cases h2
theorem Rd.elem{k:Nat}{l:List T}{a:Addr}{c n:Nat}(h:Rd w X (.sl k l) (.slice (some a) n c)){i:Nat}{x:T}(hi:l[i]?=some x):n=l.length∧ik w X k x (a.add (i*k)):=by
 cases h with
 | sl _ _ _ _ ys _ hc hm hu hy hcell hr=>
  refine⟨rfl,hu x (mM hi),(ys.drop (i*k)).take k,?_,fun j y hj=>?_,fun j t y h1 h2=>?_⟩
  ·have hlt:i<l.length:=(dL.1 hi).1
   have:(i+1)*k≤l.length*k:=EV _ hlt
   rw[tM] at this
   simp[hy,hu.length]
   omega
  ·rw[pT] at hj
   split at hj
   ·rw[tO] at hj
    rw[sK,uN]
    exact hcell _ _ hj
   ·cases hj
  ·rw[pT] at h2
   split at h2
   ·rename_i hj
    rw[tO] at h2
    exact hr (i*k+j) t y (by rw[hu.cell hi j hj];exact h1) h2
   ·cases h2
theorem pG{h:Value}{fz:Bool}{e:TypeId}{n:Nat}{l:List T}(ho:cu w X ρ h (.row fz e n l)):
 (h=.slice none 0 0∧l=[])∨∃a cap,h=.slice (some a) l.length cap∧l.length≤cap∧cap≤maxLen∧∃xs,dp w X (flat l) xs∧(∀(i:Nat) y,xs[i]?=some y→w.cell? (a.add i)=some y):=by
 obtain⟨h0,hu,⟨xs,hown,hr⟩,hf⟩:=ho
 rcases hown.2 with⟨e1 | ⟨a,e1⟩,e2⟩ | ⟨g,off,cap,jD,e1,_,_,h1,h2,_⟩
 ·exact .inl ⟨e1,uK e2⟩
 ·exact .inr ⟨a,0,by rw[e2];exact e1,by omega,by unfold maxLen;omega,xs,hr,hown.cells e1⟩
 ·exact .inr ⟨⟨g,off,none⟩,cap,e1,h1,h2,xs,hr,hown.cells e1⟩
theorem JI{X':Nat→Prop}{h:Value}{fz:Bool}{e:TypeId}{n:Nat}{l:List T}(ho:cu w X ρ h (.row fz e n l))(hX:∀b,X' b→X b)(hb:∀b,bq h=some b→¬X' b):Rd w X' (.sl n l) h:=by
 have ho':=ho
 obtain⟨h0,hu,_,_⟩:=ho'
 rcases pG ho with⟨rfl,rfl⟩ | ⟨a,cap,rfl,h1,h2,xs,hr,hc⟩
 ·exact .nil n h0.2
 ·refine .sl n l _ cap xs h0.2 h1 h2 hu hr.1 (fun i y hi=>?_) fun i t y e1 e2=>(hr.2 i t y e1 e2).1.ij hX
  have hlt:i<(flat l).length:=by have:=(dL.1 hi).1;rw[hr.1] at this;exact this
  have hc0:cap≠0:=by
   intro hc0
   have:l=[]:=uK (by omega)
   subst this
   simp[flat] at hlt
  exact⟨hc i y hi,hb _ (by simp[bq,hc0]),(hr.2 i _ y (dH hlt) hi).2⟩
theorem UT{X':Nat→Prop}{h:Value}{fz:Bool}{e:TypeId}{n:Nat}{l:List T}(ho:cu w X ρ h (.mp fz e n l))(hX:∀b,X' b→X b)(hb:∀b,bq h=some b→¬X' b):Rd w X' (.sl n l) h:=by
 obtain⟨h0,g,es,clock,rfl,hg,⟨e1,e2,e3,_⟩,_⟩:=ho
 exact .mp n l g es clock h0 hg (hb g rfl) e1 e2 fun i k v e a b=>(e3 i k v e a b).ij hX
theorem Si{h:Value}{fz:Bool}{e:TypeId}{n:Nat}{l:List T}(ho:cu w X ρ h (.mp fz e n l)):h.oneCell'=true:=by
 obtain⟨h0,g,es,clock,rfl,_⟩:=ho
 rfl
theorem GI{h y:Value}{fz tg:Bool}{e:TypeId}{n lo len:Nat}{l:List T}(ho:cu w X ρ h (.row fz e n l))(hc:ek h n lo len tg y):
 (oC l lo len).length=len∧dt n (oC l lo len)∧y.oneCell'=true∧((y=.slice none 0 0∧oC l lo len=[])∨∃a q,y=.slice (some a) (oC l lo len).length q∧(oC l lo len).length≤q∧q≤maxLen ∧
  ∃xs,dp w X (flat (oC l lo len)) xs∧∀(i:Nat) z,xs[i]?=some z→w.cell? (a.add i)=some z∧bq h=some a.block):=by
 have ho':=ho
 obtain⟨h0,hu,_,_⟩:=ho'
 unfold oC
 obtain⟨ao,L,c,cc,ao',rfl,rfl,h1,h2,h3,h4,_⟩:=hc
 have mr:dp w X (flat ([]:List T)) []:=⟨rfl,fun i t y h1 _=>by simp[flat] at h1⟩
 have hempty:∀m:List T,m=[]→len=0→cc≤maxLen→((Value.slice ao' len cc=.slice none 0 0∧m=[])∨∃a q,Value.slice ao' len cc=.slice (some a) m.length q∧m.length≤q∧q≤maxLen ∧
  ∃xs,dp w X (flat m) xs∧∀(i:Nat) z,xs[i]?=some z→w.cell? (a.add i)=some z∧bq (.slice ao L c)=some a.block):=fun m hm hl hcm=>by
  subst hm;subst hl
  cases ao' with
  | none=>
   have:cc=0:=by
    rcases Nat.eq_zero_or_pos cc with h | h
    ·exact h
    ·have h5:=h4 h
     cases ao with
     | none=>
      rcases pG ho with⟨e1,_⟩ | ⟨a,cap,e1,_⟩
      ·cases e1;omega
      ·cases e1
     | some a=>cases h5
   subst this
   exact .inl ⟨rfl,rfl⟩
  | some b=>exact .inr ⟨b,cc,rfl,HE _,hcm,[],mr,fun i z h=>by simp at h⟩
 rcases pG ho with⟨e1,rfl⟩ | ⟨a,cap,e1,g1,g2,xs,hr,hcell⟩
 ·cases e1
  have:len=0:=by omega
  subst this
  exact⟨by simp,by simp;exact .nil n,rfl,hempty _ (by simp) rfl (by unfold maxLen;omega)⟩
 ·cases e1
  have hlen:((l.drop lo).take len).length=len:=by rw[nM,MK];omega
  refine⟨hlen,(hu.drop lo).take len,rfl,?_⟩
  by_cases hz:len=0
  ·exact hempty _ (uK (by rw[hlen];exact hz)) hz (by omega)
  ·have h5:=h4 (by omega)
   have hao:ao'=some (a.add (lo*n)):=h5
   rw[hao]
   have hfl:flat ((l.drop lo).take len)=((flat l).drop (lo*n)).take (len*n):=by rw[(hu.drop lo).de,hu.ct]
   have hxl:=hr.1
   refine .inr ⟨a.add (lo*n),cc,by rw[hlen],by rw[hlen];exact h2,by omega,(xs.drop (lo*n)).take (len*n),⟨by rw[hfl];simp[hxl],fun i t z hi hz'=>?_⟩,fun i z hi=>?_⟩
   ·rw[hfl,pT] at hi
    rw[pT] at hz'
    split at hi
    ·rename_i hlt
     rw[aC hlt] at hz'
     rw[tO] at hi hz'
     exact hr.2 _ t z hi hz'
    ·cases hi
   ·rw[pT] at hi
    split at hi
    ·rw[tO] at hi
     refine⟨by rw[sK];exact hcell _ z hi,?_⟩
     rw[uN]
     simp only[bq];rw[aA (by omega)]
    ·cases hi
theorem O5{X':Nat→Prop}{h y:Value}{fz tg:Bool}{e:TypeId}{n lo len:Nat}{l:List T}(ho:cu w X ρ h (.row fz e n l))(hc:ek h n lo len tg y)(hX:∀b,X' b→X b)(hb:∀b,bq h=some b→¬X' b):
 Rd w X' (.sl n (oC l lo len)) y:=by
 obtain⟨_,hu,_,hh⟩:=GI ho hc
 rcases hh with⟨rfl,h2⟩ | ⟨a,q,rfl,h1,h2,xs,hr,hcell⟩
 ·rw[h2];exact .nil n ho.1.2
 ·refine .sl n _ a q xs ho.1.2 h1 h2 hu hr.1 (fun i z hi=>?_) fun i t z e1 e2=>(hr.2 i t z e1 e2).1.ij hX
  have hlt:i<(flat (oC l lo len)).length:=by rw[←hr.1];exact(dL.1 hi).1
  obtain⟨g1,g2⟩:=hcell i z hi
  exact⟨g1,hb _ g2,(hr.2 i _ z (dH hlt) hi).2⟩
theorem Oj{h:Value}{fz:Bool}{e:TypeId}{n:Nat}{l:List T}(ho:cu w X ρ h (.row fz e n l)):h.oneCell'=true:=by
 rcases pG ho with⟨rfl,_⟩ | ⟨g,cap,rfl,_⟩ <;> rfl
theorem Iy{h:Value}{fz:Bool}{e:TypeId}{n:Nat}{l:List T}(ho:cu w X ρ h (.row fz e n l)){i:Nat}{x:T}(hi:l[i]?=some x){j m:Nat}(hj:j+m≤n):
 ∃a ys,JE h=some a∧ys.length=m∧(∀(q:Nat) y,ys[q]?=some y→w.cell? ((a.add (i*n+j)).add q)=some y)∧bw w X ρ (A6 x j m) ys:=by
 have ho':=ho
 obtain⟨h0,hu,_,_⟩:=ho'
 rcases pG ho with⟨rfl,rfl⟩ | ⟨a0,cap,rfl,h1,h2,xs,hr,hc⟩
 ·simp at hi
 ·have hlt:i<l.length:=(dL.1 hi).1
  have hmul:(i+1)*n≤l.length*n:=EV _ hlt
  rw[tM] at hmul
  have hxl:xs.length=l.length*n:=by rw[hr.1,hu.length]
  have hxn:x.cells.length=n:=hu x (mM hi)
  refine⟨_,(xs.drop (i*n+j)).take m,rfl,by simp[hxl];omega,fun q y hq=>?_,?_⟩
  ·rw[pT] at hq
   split at hq
   ·rw[tO] at hq
    rw[sK]
    exact hc _ _ hq
   ·cases hq
  ·refine⟨by simp[A6,hxl];omega,fun q c y e1 e2=>?_⟩
   simp only[A6,fF] at e1
   rw[pT] at e2
   split at e2
   ·rename_i hq
    rw[tO] at e2
    rw[ZF hq] at e1
    simp only[fA,cG] at e1
    subst e1
    have hlt':j+q<x.cells.length:=by omega
    have hce:=hu.cell hi (j+q) (by omega)
    have hr':=hr.2 (i*n+j+q) (x.cells[j+q]) y (by rw[T3,hce,dH hlt']) e2
    refine .inr ⟨?_,hr'.2⟩
    simpa[ib,T.cell,jY,dH hlt'] using hr'.1
   ·cases e2
end
@[irreducible] def xT(a b:Bool):Bool:=a&&b
section
variable {R:Type} (P:Program)
def UU(rc:TypeId→S1→S1→(Bool→Option R)→Option R)(cs ds:List C):List Field→(Bool→Option R)→Option R
 | [],k=>k true
 | f::fs,k=>if f.name = "_" then none else match IB P f.type,I2 P f.type with
  | some ag,some n=>match UR cs f.offset n ag,UR ds f.offset n ag with
   | some s,some s'=>rc f.type s s' fun b=>UU rc cs ds fs fun r=>k (xT b r)
   | _,_=>none
  | _,_=>none
def UV(rc:TypeId→S1→S1→(Bool→Option R)→Option R)(e:TypeId)(n:Nat)(ag:Bool)(cs ds:List C):List Nat→(Bool→Option R)→Option R
 | [],k=>k true
 | i::is,k=>match UR cs (i*n) n ag,UR ds (i*n) n ag with
  | some s,some s'=>rc e s s' fun b=>UV rc e n ag cs ds is fun r=>k (xT b r)
  | _,_=>none
def S1.av:S1→Option (List C)
 | .agg l=>some l
 | _=>none
def IC:Nat→TypeId→S1→S1→(Bool→Option R)→Option R
 | 0,_,_,_,_=>none
 | d+1,t,x,y,k=>match P.underlying t with
  | some (.int kd)=>RV kd (.s x) fun a=>RV kd (.s y) fun b=>k (dJ a b)
  | some .bool=>RW (.s x) fun a=>RW (.s y) fun b=>k (Is a b)
  | some .string=>RR (.s x) fun a=>RR (.s y) fun b=>k (Od a b)
  | some (.struct fs)=>if P.stoodInHeld t=true then none else match x.av,y.av with
   | some cs,some ds=>UU P (IC d) cs ds fs.toList k
   | _,_=>none
  | some (.array n e)=>match IB P e,I2 P e,x.av,y.av with
   | some ag,some sz,some cs,some ds=>UV (IC d) e sz ag cs ds (List.range n) k
   | _,_,_,_=>none
  | _=>none
def Iz(P:Program)(ty:TypeId):Bool:=match P.underlying ty with
 | some (.struct _)=>true
 | some (.array _ _)=>true
 | _=>false
def Ok(d:D)(k:S1→Option R):Option R:=match d with
 | .s x=>k x
 | _=>none
def Ff(op:BinOp)(ty yty:TypeId)(x y:D)(f:D→Option R):Option R:=
 if Iz P ty=true then (if P.eqGuardType P.depth ty=true then none else
  Ok x fun a=>Ok y fun b=>if op=.eql then IC P 8 ty a b fun b=>f (dB b) else if op=.neq then IC P 8 ty a b fun b=>f (dB (!b)) else none)
 else Fb P op ty yty x y f
variable {P} {w:World} {X:Nat→Prop} {ρ:nP}
def Ol(P:Program)(w:World)(X:Nat→Prop)(ρ:nP)(d:Nat)(rc:∀{R:Type},TypeId→S1→S1→(Bool→Option R)→Option R):Prop:=
 ∀{R:Type} (r:R) (t:TypeId) (x y:S1) (vx vy:Value) (k:Bool→Option R),en w X ρ x vx→en w X ρ y vy→rc t x y k=some r→∃b,(Op.equalIn d t vx vy).run P w=.ok b w∧k b=some r
theorem Cl{d:Nat}{rc:∀{R:Type},TypeId→S1→S1→(Bool→Option R)→Option R}(hrc:Ol P w X ρ d rc){xs ys:Array Value}{cs ds:List C}(hx:bw w X ρ cs xs.toList)(hy:bw w X ρ ds ys.toList):
 ∀(fs:List Field) {R:Type} (r:R) (k:Bool→Option R),UU P rc cs ds fs k=some r→∃b,(Op.eqFields d xs ys fs).run P w=.ok b w∧k b=some r
 | [],R,r,k,h=>⟨true,by simp[Op.eqFields],h⟩
 | f::fs,R,r,k,h=>by
  simp only[UU] at h
  split at h
  ·cases h
  ·rename_i hn
   split at h
   case h_2=>cases h
   rename_i ag n hag hsz
   split at h
   case h_2=>cases h
   rename_i s s' hs hs'
   obtain⟨va,e1,r1⟩:=NW hx hsz hag hs
   obtain⟨vb,e2,r2⟩:=NW hy hsz hag hs'
   obtain⟨b,e3,h3⟩:=hrc r f.type s s' va vb _ r1 r2 h
   obtain⟨b',e4,h4⟩:=Cl hrc hx hy fs r _ h3
   simp only[Op.eqFields,hn,uW,ZK,eY,Sem.run_bind,e1,e2,e3,Result.andThen_ok]
   cases b with
   | false=>exact⟨false,by simp,by unfold xT at h4;simpa using h4⟩
   | true=>exact⟨b',by simpa using e4,by unfold xT at h4;simpa using h4⟩
theorem Cm{d:Nat}{rc:∀{R:Type},TypeId→S1→S1→(Bool→Option R)→Option R}(hrc:Ol P w X ρ d rc){e:TypeId}{n:Nat}{ag:Bool}(hsz:I2 P e=some n)(hag:IB P e=some ag){xs ys:Array Value}{cs ds:List C}(hx:bw w X ρ cs xs.toList)(hy:bw w X ρ ds ys.toList):
 ∀(is:List Nat) {R:Type} (r:R) (k:Bool→Option R),UV rc e n ag cs ds is k=some r→∃b,(Op.eqItems d e n xs ys is).run P w=.ok b w∧k b=some r
 | [],R,r,k,h=>⟨true,by simp[Op.eqItems],h⟩
 | i::is,R,r,k,h=>by
  simp only[UV] at h
  split at h
  case h_2=>cases h
  rename_i s s' hs hs'
  obtain⟨va,e1,r1⟩:=NW hx hsz hag hs
  obtain⟨vb,e2,r2⟩:=NW hy hsz hag hs'
  obtain⟨b,e3,h3⟩:=hrc r e s s' va vb _ r1 r2 h
  obtain⟨b',e4,h4⟩:=Cm hrc hsz hag hx hy is r _ h3
  simp only[Op.eqItems,Sem.run_bind,e1,e2,e3,Result.andThen_ok]
  cases b with
  | false=>exact⟨false,by simp,by unfold xT at h4;simpa using h4⟩
  | true=>exact⟨b',by simpa using e4,by unfold xT at h4;simpa using h4⟩
theorem A7{s:S1}{l:List C}{v:Value}(h:en w X ρ s v)(hs:s.av=some l):∃xs:Array Value,v=.agg xs∧bw w X ρ l xs.toList:=by
 cases s with
 | c c=>cases hs
 | agg l'=>cases hs;exact h
theorem UW:∀(d D:Nat),d≤D→Ol P w X ρ D (fun {R}=>IC (R:=R) P d)
 | 0,D,_,R,r,t,x,y,vx,vy,k,hx,hy,h=>by cases h
 | d+1,0,hD,R,r,t,x,y,vx,vy,k,hx,hy,h=>by omega
 | d+1,D+1,hD,R,r,t,x,y,vx,vy,k,hx,hy,h0=>by
  have h:IC P (d+1) t x y k=some r:=h0
  clear h0
  have ih:Ol P w X ρ D (fun {R}=>IC (R:=R) P d):=@fun R=>@UW d D (by omega) R
  have hx':bc w X ρ (.s x) vx:=hx
  have hy':bc w X ρ (.s y) vy:=hy
  simp only[IC] at h
  split at h
  ·rename_i kd hu
   obtain⟨a,rfl,h⟩:=zZ hx' h
   obtain⟨b,rfl,h⟩:=zZ hy' h
   exact⟨a==b,run_equalIn_int w D t kd kd a b hu,by unfold dJ at h;exact h⟩
  ·rename_i hu
   obtain⟨a,rfl,h⟩:=BN hx' h
   obtain⟨b,rfl,h⟩:=BN hy' h
   exact⟨a==b,run_equalIn_bool w D t a b hu,by unfold Is at h;exact h⟩
  ·rename_i hu
   obtain⟨a,rfl,h⟩:=BO hx' h
   obtain⟨b,rfl,h⟩:=BO hy' h
   exact⟨a.toList==b.toList,run_equalIn_string w D t a b hu,by unfold Od at h;exact h⟩
  ·rename_i fs hu
   split at h
   ·cases h
   rename_i hst
   split at h
   case h_2=>cases h
   rename_i cs ds hcs hds
   obtain⟨xs,rfl,hxs⟩:=A7 hx hcs
   obtain⟨ys,rfl,hys⟩:=A7 hy hds
   obtain⟨b,e,hk⟩:=Cl ih hxs hys fs.toList r k h
   have hf:P.fieldsOf t=fs:=by simp[Program.fieldsOf,hu]
   refine⟨b,?_,hk⟩
   rw[run_equalIn_struct w D t xs ys (by rw[hf];exact hu) (by simpa using hst),hf]
   exact e
  ·rename_i n e hu
   split at h
   case h_2=>cases h
   rename_i ag sz cs ds hag hsz hcs hds
   obtain⟨xs,rfl,hxs⟩:=A7 hx hcs
   obtain⟨ys,rfl,hys⟩:=A7 hy hds
   obtain⟨b,e',hk⟩:=Cm ih hsz hag hxs hys (List.range n) r k h
   refine⟨b,?_,hk⟩
   obtain⟨i,hi,hsi⟩:∃i,P.info? e=some i∧i.size=sz:=by
    unfold I2 at hsz
    cases hi:P.info? e with
    | none=>simp[hi] at hsz
    | some i=>exact⟨i,rfl,by simpa[hi] using hsz⟩
   have hc:P.cellsOf e=sz:=by simp[Program.cellsOf,hi,hsi]
   rw[run_equalIn_array w D xs ys hu hi,hc]
   exact e'
  ·cases h
theorem Cn{d:D}{v:Value}{r:R}{k:S1→Option R}(h:bc w X ρ d v)(hk:Ok d k=some r):∃s,en w X ρ s v∧k s=some r:=by
 cases d with
 | s x=>exact⟨x,h,hk⟩
 | eg l=>cases hk
theorem Om{r:R}{op:BinOp}{ty yty:TypeId}{x y:D}{xo yo:Operand}{vx vy:Value}{f:D→Option R}(hx:bc w X ρ x vx)(hy:bc w X ρ y vy)(h:Ff P op ty yty x y f=some r):
 ∃d v,(do eqGuard op ty xo yo vx vy;binOp op ty vx vy:Sem Value).run P w=.ok v w∧bc w X ρ d v∧f d=some r:=by
 unfold Ff at h
 split at h
 case isFalse=>exact Oi hx hy h
 rename_i hagg
 split at h
 ·cases h
 rename_i hg
 obtain⟨a,ha,h1⟩:=Cn hx h
 obtain⟨b,hb,h2⟩:=Cn hy h1
 clear h h1
 have aggv:∀{R:Type} {r:R} {k:Bool→Option R},IC P 8 ty a b k=some r→(∃xs,vx=.agg xs)∧∃ys,vy=.agg ys:=by
  intro R r k h
  have h8:IC P 8 ty a b k=match P.underlying ty with
   | some (.int kd)=>RV kd (.s a) fun a=>RV kd (.s b) fun b=>k (dJ a b)
   | some .bool=>RW (.s a) fun a=>RW (.s b) fun b=>k (Is a b)
   | some .string=>RR (.s a) fun a=>RR (.s b) fun b=>k (Od a b)
   | some (.struct fs)=>if P.stoodInHeld ty=true then none else match a.av,b.av with
    | some cs,some ds=>UU P (IC P 7) cs ds fs.toList k
    | _,_=>none
   | some (.array n e)=>match IB P e,I2 P e,a.av,b.av with
    | some ag,some sz,some cs,some ds=>UV (IC P 7) e sz ag cs ds (List.range n) k
    | _,_,_,_=>none
   | _=>none:=rfl
  rw[h8] at h
  unfold Iz at hagg
  split at hagg
  ·rename_i fs hu
   simp only[hu] at h
   split at h
   ·cases h
   split at h
   case h_2=>cases h
   rename_i h1 h2
   obtain⟨xs,e1,_⟩:=A7 ha h1
   obtain⟨ys,e2,_⟩:=A7 hb h2
   exact⟨⟨xs,e1⟩,ys,e2⟩
  ·rename_i n e hu
   simp only[hu] at h
   split at h
   case h_2=>cases h
   rename_i h1 h2
   obtain⟨xs,e1,_⟩:=A7 ha h1
   obtain⟨ys,e2,_⟩:=A7 hb h2
   exact⟨⟨xs,e1⟩,ys,e2⟩
  ·cases hagg
 have hguard:∀xs ys,(eqGuard op ty xo yo (.agg xs) (.agg ys)).run P w=.ok () w:=fun xs ys=>by
  unfold eqGuard
  have hg':P.eqGuardType P.depth ty=false:=by simpa using hg
  cases op <;> first
   | rfl
   | (simp only[bH,nL,iD,Sem.run_bind,run_program,Result.andThen_ok,hg',bW,eY,Sem.run_pure])
 have hm:∀vx vy,(Op.equal ty vx vy).run P w=(Op.equalIn 10000 ty vx vy).run P w:=fun _ _=>rfl
 split at h2
 ·rename_i ho
  subst ho
  obtain⟨⟨xs,rfl⟩,ys,rfl⟩:=aggv h2
  obtain⟨q,e,hk⟩:=UW (P:=P) 8 10000 (by omega) r ty a b _ _ _ ha hb h2
  refine⟨_,.bool q,?_,.bool q,hk⟩
  simp only[Sem.run_bind,hguard,Result.andThen_ok]
  show (do pure (.bool (←Op.equal ty (.agg xs) (.agg ys))):Sem Value).run P w=_
  simp only[Sem.run_bind,hm,e,Result.andThen_ok,Sem.run_pure]
 ·split at h2
  ·rename_i ho
   subst ho
   obtain⟨⟨xs,rfl⟩,ys,rfl⟩:=aggv h2
   obtain⟨q,e,hk⟩:=UW (P:=P) 8 10000 (by omega) r ty a b _ _ _ ha hb h2
   refine⟨_,.bool (!q),?_,.bool (!q),hk⟩
   simp only[Sem.run_bind,hguard,Result.andThen_ok]
   show (do pure (.bool (!(←Op.equal ty (.agg xs) (.agg ys)))):Sem Value).run P w=_
   simp only[Sem.run_bind,hm,e,Result.andThen_ok,Sem.run_pure]
  ·cases h2
end
@[irreducible] def aX{α:Type}(l:List α)(i:Nat):Option α:=l[i]?
theorem CB{α:Type}{l:List α}{i:Nat}{x:α}(h:aX l i=some x):l[i]?=some x:=by unfold aX at h;exact h
def Uw(n:Nat)(cells:List T):T:=match n,cells with
 | 1,t::_=>t
 | _,l=>.agg l
@[irreducible] def T.ax(n:Nat)(x:T)(j:Nat)(ts:List T):T:=Uw n (x.cells.take j++ts++x.cells.drop (j+ts.length))
def C.iv:C→Option T
 | .t (.agg _)=>none
 | .t x=>some x
 | _=>none
def GJ:List C→Option (List T)
 | []=>some []
 | c::l=>match c.iv,GJ l with
  | some x,some xs=>some (x::xs)
  | _,_=>none
theorem WU{c:C}{x:T}(h:c.iv=some x):c=.t x∧∀l,x≠.agg l:=by
 unfold C.iv at h
 split at h <;> first
  | (cases h;done)
  | (rename_i y hn;cases h;exact⟨rfl,fun l e=>hn l e⟩)
section
variable {w:World} {X:Nat→Prop} {ρ:nP}
theorem O6:∀{cs:List C} {ts:List T} {ys:List Value},bw w X ρ cs ys→GJ cs=some ts →
 ts.length=cs.length∧dp w X ts ys∧(∀t∈ts,∀l,t≠.agg l)
 | [],ts,ys,h,ht=>by
  simp only[GJ,cG] at ht
  subst ht
  exact⟨rfl,⟨by simpa using h.1,fun i t y h1 _=>by simp at h1⟩,by simp⟩
 | c::l,ts,ys,h,ht=>by
  simp only[GJ] at ht
  split at ht
  ·rename_i x xs hx hxs
   cases ht
   obtain⟨rfl,hn⟩:=WU hx
   cases ys with
   | nil=>simp[bw] at h
   | cons y ys=>
    have htail:bw w X ρ l ys:=⟨by simpa using h.1,fun i c y h1 h2=>h.2 (i+1) c y (by simpa using h1) (by simpa using h2)⟩
    obtain⟨e1,e2,e3⟩:=O6 htail hxs
    refine⟨by simp[e1],⟨by simpa using e2.1,fun i t y' h1 h2=>?_⟩,?_⟩
    ·cases i with
     | zero=>
      simp at h1 h2
      subst h1;subst h2
      rcases h.2 0 _ _ rfl rfl with hh | hh
      ·cases hh
      ·exact hh
     | succ i=>exact e2.2 i t y' (by simpa using h1) (by simpa using h2)
    ·intro t ht
     rcases cJ.1 ht with rfl | ht
     ·exact hn
     ·exact e3 t ht
  ·cases ht
theorem LC{n:Nat}{ts:List T}(hn:ts.length=n)(h:∀t∈ts,∀l,t≠.agg l):(Uw n ts).cells=ts:=by
 unfold Uw
 split
 ·rename_i t l
  have:l=[]:=uK (by simpa using hn)
  subst this
  cases t with
  | agg l=>exact(h _ (by simp) l rfl).elim
  | v x=>rfl
  | sl k l=>rfl
 ·rfl
end
def C.shift(off:Nat):C→Option C
 | .box k j=>some (.box k (j+off))
 | .pe n x j=>some (.pe n x (j+off))
 | .ic k n i j=>some (.ic k n i (j+off))
 | _=>none
theorem WW{w:World}{X:Nat→Prop}{ρ:nP}{c c':C}{y:Value}{off:Nat}(h:cm w X ρ c y)(hc:c.shift off=some c'):
 ∃a,y=.pointer (some a)∧ib w X ρ c' (.pointer (some (a.add off))):=by
 rcases h with h | ⟨h,_⟩
 ·subst h;cases hc
 ·unfold C.shift at hc
  split at hc <;> first
   | (cases hc;done)
   | skip
  ·cases hc
   obtain⟨v,h1,a,h2,h3⟩:=h
   exact⟨_,h3,v,h1,a,h2,by rw[sK]⟩
  ·cases hc
   obtain⟨a,h1,h2⟩:=h
   exact⟨_,h1,a,by rw[sK],h2⟩
  ·cases hc
   obtain⟨v,h1,a,h2,h3⟩:=h
   exact⟨_,h3,v,h1,a,h2,by rw[sK,T3]⟩
section
variable {R:Type} (P:Program)
def Xe(b:Bool)(l:List C):D:=if b then .s (.agg l) else match l with
 | c::_=>.s (.c c)
 | []=>D.top
def O.cells?:O→Option (List C)
 | .box l=>some l
 | .cv l=>some l
 | _=>none
def A2(ae:List O):Nat→Nat→Option Nat
 | 0,_=>none
 | f+1,k=>match ae[k]? with
  | some (.rr _ _ _ _ _)=>some k
  | some (.fwd k')=>A2 ae f k'
  | _=>none
def uZ(st:St)(t:TypeId)(d:D)(k:D→Option R):Option R:=
 match I2 P t,IB P t with
 | some n,some b=>if b=false∧n≠1 then none else zN d fun c=>match c with
  | .box key j=>match (st.ae[key]?).bind O.cells? with
   | some cs=>match UR cs j n b with
    | some s=>k (.s s)
    | none=>none
   | none=>none
  | .pe m x j=>if j+n≤m then k (Xe b (A6 x j n)) else none
  | .ic key m i j=>match st.ae[key]? with
   | some (.row _ _ m' es)=>if m=m'∧j+n≤m then ob (aX es i) fun x=>k (Xe b (A6 x j n)) else none
   | _=>none
  | .ko key i=>match A2 st.ae 64 key with
   | some K=>match st.ae[K]? with
    | some (.rr none _ _ _ l)=>if b=false then ob (aX l i) fun _=>k (.s (.c (.fg K i))) else none
    | _=>none
   | none=>none
  | _=>none
 | _,_=>none
variable {P} {w0 w:World} {F Xc:Nat→Prop} {ρ0:cq} {ρ:nP} {st:St} {a:Act} {r:R}
theorem Rel.cellsOf(h:Rel w0 F Xc ρ0 ρ st a w){key:Nat}{cs:List C}(hob:(st.ae[key]?).bind O.cells?=some cs):
 ∃hv g ys ty,ρ key=some hv∧hv=.pointer (some ⟨g,0,none⟩)∧w.heap[g]?=some (.cells ys ty (0,0))∧bw w (XB st.ae ρ Xc) ρ cs ys.toList:=by
 obtain⟨o,ho,hc⟩:=pS.1 hob
 have hk:=h.ae key o ho
 cases o with
 | box l=>cases hc;obtain⟨hv,e1,g,ys,ty,e2,e3,_,e4⟩:=hk;exact⟨hv,g,ys,ty,e1,e2,e3,e4⟩
 | cv l=>cases hc;obtain⟨hv,e1,g,ys,ty,e2,e3,e4,_⟩:=hk;exact⟨hv,g,ys,ty,e1,e2,e3,e4⟩
 | _=>cases hc
theorem xU{t:TypeId}{n:Nat}{b:Bool}{ad:Addr}{ys:List Value}(hn:I2 P t=some n)(hb:IB P t=some b)(h1:b=false→n=1)(hl:ys.length=n)
 (hc:∀(i:Nat) y,ys[i]?=some y→w.cell? (ad.add i)=some y):
 (loadVar t ad).run P w=.ok (if b then .agg ys.toArray else ys.headD undef) w:=by
 unfold loadVar
 simp only[Sem.run_bind,LA hb,Result.andThen_ok]
 cases b with
 | true=>
  simp only[eY,Sem.run_bind,iL hn,Result.andThen_ok,←hl,run_loadCells_list w ad ys hc,Sem.run_pure]
 | false=>
  have hn1:=h1 rfl
  subst hn1
  match ys,hl with
  | [y],_=>
   have:=hc 0 y rfl
   have e:ad.add 0=ad:=rfl
   rw[e] at this
   simp[run_load,this]
theorem Ja{X:Nat→Prop}{b:Bool}{l:List C}{ys:List Value}(h:bw w X ρ l ys)(h1:b=false→ys.length=1):bc w X ρ (Xe b l) (if b then .agg ys.toArray else ys.headD undef):=by
 cases b with
 | true=>exact⟨_,rfl,h⟩
 | false=>
  have hl:=h.1
  have:=h1 rfl
  match ys,l,this,hl with
  | [y],[c],_,_=>exact h.2 0 c y rfl rfl
theorem CV(h:Rel w0 F Xc ρ0 ρ st a w):∀{f key K:Nat} {vs:Array Value},A2 st.ae f key=some K→ρ key=some (.tuple vs) →
 ∃hole e e2 n l vs',st.ae[K]?=some (.rr hole e e2 n l)∧ρ K=some (.tuple vs')∧vs'[0]?=vs[0]?∧iz w (XB st.ae ρ Xc) hole e e2 n l (.tuple vs')
 | 0,_,_,_,hr,_=>by simp[A2] at hr
 | f+1,key,K,vs,hr,hv=>by
  simp only[A2] at hr
  split at hr
  ·rename_i hole e e2 n l hob
   cases hr
   obtain⟨v,e1,e2'⟩:=h.ae _ _ hob
   rw[hv] at e1
   cases e1
   exact⟨_,_,_,_,_,vs,hob,hv,rfl,e2'⟩
  ·rename_i k' hob
   obtain⟨v,e1,us,us',g1,g2,g3⟩:=h.ae _ _ hob
   rw[hv] at e1
   cases e1
   cases g1
   obtain⟨hole,e,e2,n,l,vs',q1,q2,q3,q4⟩:=CV h hr g2
   exact⟨hole,e,e2,n,l,vs',q1,q2,q3.trans g3,q4⟩
  ·cases hr
theorem iz.head{X:Nat→Prop}{hole:Option Nat}{e e2:TypeId}{n:Nat}{l:List (List T)}{vs:Array Value}{v:Value}(h:iz w X hole e e2 n l (.tuple vs))(hv:vs[0]?=some v):
 (v=.slice none 0 0∧l=[])∨∃a cap,v=.slice (some a) l.length cap:=by
 obtain⟨h0,ho,hs,xs,g1,g2,g3,_⟩:=h
 cases g1
 have:ho=v:=by simpa using hv
 subst this
 rcases g2.2 with⟨hn | ⟨a,hn⟩,hz⟩ | ⟨g,off,cap,jD,hn,_⟩
 ·exact .inl ⟨hn,uK hz⟩
 ·exact .inr ⟨a,0,by rw[hn,hz]⟩
 ·exact .inr ⟨_,cap,hn⟩
theorem WX{t:TypeId}{d:D}{v:Value}{k:D→Option R}(h:Rel w0 F Xc ρ0 ρ st a w)(hd:bc w (XB st.ae ρ Xc) ρ d v)(hk:uZ P st t d k=some r):
 ∃s y,(Instr.loadAt t v).run P w=.ok y w∧bc w (XB st.ae ρ Xc) ρ s y∧k s=some r:=by
 unfold uZ at hk
 split at hk
 case h_2=>cases hk
 rename_i n b hn hb
 split at hk
 case isTrue=>cases hk
 rename_i hnb
 have hb1:b=false→n=1:=fun e=>by
  apply EW;intro hh;exact hnb ⟨e,hh⟩
 obtain⟨c,rfl,hc,hk⟩:=uX hd hk
 cases c with
 | box key j=>
  dsimp only at hk
  split at hk
  case h_2=>cases hk
  rename_i cs hob
  split at hk
  case h_2=>cases hk
  rename_i s hsub
  rcases hc with hc | ⟨⟨hv,e1,ba,e2,e3⟩,_⟩
  ·cases hc
  ·obtain⟨hv',g,ys,ty,f1,f2,f3,f4⟩:=h.cellsOf hob
   rw[e1] at f1
   cases f1
   rw[f2] at e2
   simp only[JE,cG] at e2
   subst e2
   subst e3
   have hadd:(⟨g,0,none⟩:Addr).add j=⟨g,j,none⟩:=by unfold Addr.add;split <;> simp_all
   have hlen:=f4.1
   rw[mO] at hlen
   have hcell:∀i:Nat,w.cell? ((⟨g,0,none⟩:Addr).add i)=ys[i]?:=fun i=>by
    have:(⟨g,0,none⟩:Addr).add i=⟨g,i,none⟩:=by unfold Addr.add;split <;> simp_all
    rw[this,cell_of_row w g i ys ty (0,0) f3]
   cases b with
   | true=>
    simp only[UR,eY] at hsub
    split at hsub
    ·rename_i hle
     cases hsub
     have hl':((ys.toList.drop j).take n).length=n:=by simp;omega
     refine⟨.s (.agg ((cs.drop j).take n)),.agg ((ys.toList.drop j).take n).toArray,?_,⟨_,rfl,(f4.drop j).take n⟩,hk⟩
     simp only[Instr.loadAt,Instr.sureAddr,Sem.run_bind,Sem.run_pure,Result.andThen_ok]
     rw[xU hn hb hb1 hl' (fun i y hi=>?_)]
     ·simp
     ·rw[pT] at hi
      split at hi
      ·rw[tO] at hi
       rw[sK,hcell,←MH]
       exact hi
      ·cases hi
    ·cases hsub
   | false=>
    have hn1:=hb1 rfl
    subst hn1
    simp only[UR,nL,iD] at hsub
    cases hcc:cs[j]? with
    | none=>simp[hcc] at hsub
    | some c'=>
     simp only[hcc,fA,cG] at hsub
     subst hsub
     have hlt:j<cs.length:=(dL.1 hcc).1
     have hy:ys[j]?=some (ys[j]'(by omega)):=uV _
     refine⟨.s (.c c'),ys[j]'(by omega),?_,f4.2 j c' _ hcc (by rw[MH];exact hy),hk⟩
     simp only[Instr.loadAt,Instr.sureAddr,Sem.run_bind,Sem.run_pure,Result.andThen_ok]
     rw[xU (ys:=[ys[j]'(by omega)]) hn hb hb1 rfl (fun i y hi=>?_)]
     ·rfl
     ·cases i with
      | zero=>
       simp only[zY,cG] at hi
       rw[sK,rH,hcell,hy,hi]
      | succ i=>simp at hi
 | pe m x j=>
  dsimp only at hk
  split at hk
  case isFalse=>cases hk
  rename_i hle
  rcases hc with hc | ⟨⟨ad,rfl,hp⟩,_⟩
  ·cases hc
  ·obtain⟨ys,e1,e2,e3⟩:=hp.cells (ρ:=ρ) hle
   refine⟨_,_,?_,Ja e3 (fun e=>by rw[e1];exact hb1 e),hk⟩
   simp only[Instr.loadAt,Instr.sureAddr,Sem.run_bind,Sem.run_pure,Result.andThen_ok]
   exact xU hn hb hb1 e1 e2
 | ic key m i j=>
  dsimp only at hk
  split at hk
  case h_2=>cases hk
  rename_i fz e m' es hob
  split at hk
  case isFalse=>cases hk
  rename_i hle
  obtain⟨rfl,hle⟩:=hle
  obtain⟨x,hx,hk⟩:=bO hk
  rcases hc with hc | ⟨⟨hv,e1,ba,e2,e3⟩,_⟩
  ·cases hc
  ·obtain⟨hv',f1,f2⟩:=h.ae key _ hob
   rw[e1] at f1
   cases f1
   obtain⟨a',ys,g1,g2,g3,g4⟩:=Iy f2 (CB hx) hle
   rw[e2] at g1
   cases g1
   subst e3
   refine⟨_,_,?_,Ja g4 (fun e=>by rw[g2];exact hb1 e),hk⟩
   simp only[Instr.loadAt,Instr.sureAddr,Sem.run_bind,Sem.run_pure,Result.andThen_ok]
   exact xU hn hb hb1 g2 g3
 | ko key i=>
  dsimp only at hk
  split at hk
  case h_2=>cases hk
  rename_i K hK
  split at hk
  case h_2=>cases hk
  rename_i e0 e20 n0 l0 hob
  split at hk
  case isFalse=>cases hk
  rename_i hbf
  obtain⟨x,hx,hk9⟩:=bO hk
  clear hk
  subst hbf
  rcases hc with hc | ⟨⟨vs,hv,e1,e2,ba,e3,e4⟩,_⟩
  ·cases hc
  ·obtain⟨hole,e,e2',n',l,vs',q1,q2,q3,q4⟩:=CV h hK e1
   rw[hob] at q1
   cases q1
   obtain⟨h0,ho,hs,xs,g1,g2,g3,g4,g5,g6⟩:=q4
   cases g1
   rw[e2] at q3
   have hho:ho=hv:=by simpa using q3
   subst hho
   have hn1:=hb1 rfl
   subst hn1
   have hil:i<l0.length:=(dL.1 (CB hx)).1
   have hxl:=g2.1
   rw[HF] at hxl
   have hxi:xs[i]?=some xs[i]:=dH (by omega)
   have hhi:hs[i]?=some hs[i]:=dH (by omega)
   obtain⟨f1,f2⟩:=g4 i _ _ hxi hhi
   have f3:=f2 (by simp)
   refine⟨.s (.c (.fg K i)),xs[i],?_,bc.one (c:=.fg K i) ⟨_,q2,?_⟩ f1,hk9⟩
   ·simp only[Instr.loadAt,Instr.sureAddr,e4,Sem.run_bind,Sem.run_pure,Result.andThen_ok]
    rw[xU (ys:=[xs[i]]) hn hb hb1 rfl (fun q y hq=>?_)]
    ·rfl
    ·cases q with
     | zero=>
      simp only[zY,cG] at hq
      subst hq
      have hsl:∃len cap,ho=.slice (some ba) len cap:=by
       rcases g2.2 with⟨hn | ⟨a',hn⟩,hz⟩ | ⟨g,off,cap,jD,hn,_⟩
       ·omega
       ·omega
       ·subst hn;simp only[JE,cG] at e3;subst e3;exact⟨_,_,rfl⟩
      obtain⟨len,cap,hsl⟩:=hsl
      have:=g2.cells hsl i _ hxi
      rw[sK,rH]
      exact this
     | succ q=>simp at hq
   ·simp only[KY,ON]
    rw[hhi,f3]
 | rk _=>cases hk
 | fg _ _=>cases hk
 | t x=>cases hk
 | row k'=>cases hk
 | fn f' cs'=>cases hk
 | self _=>cases hk
 | cut _ _ _ _ _=>cases hk
 | fe=>cases hk
 | top=>cases hk
end
def C.rs:C→List Nat
 | .row k=>[k]
 | .cut k _ _ _ _=>[k]
 | _=>[]
def rT{α:Type}:List (Option α)→Option (List α)
 | []=>some []
 | some a::l=>(rT l).map (a::·)
 | none::_=>none
def nH:O→O
 | .row _ e n l=>.row true e n l
 | .mp _ e n l=>.mp true e n l
 | o=>o
def ai(ae:List O):List Nat→List O
 | []=>ae
 | k::l=>match ae[k]? with
  | some o=>ai (ae.set k (nH o)) l
  | none=>ai ae l
theorem UX{α:Type}:∀{l:List (Option α)} {m:List α},rT l=some m→l=m.map some
 | [],m,h=>by simp only[rT,cG] at h;subst h;rfl
 | some a::l,m,h=>by
  simp only[rT] at h
  cases hs:rT l with
  | none=>simp[hs] at h
  | some q=>
   simp only[hs,fA,cG] at h
   subst h
   rw[UX hs];rfl
 | none::l,m,h=>by simp[rT] at h
theorem xV{α β:Type}{f:α→Option β}{l:List α}{m:List β}(h:rT (l.map f)=some m):m.length=l.length∧∀(i:Nat) a,l[i]?=some a→∃b,m[i]?=some b∧f a=some b:=by
 have e:=UX h
 have hl:m.length=l.length:=by have:=fG List.length e;simpa using this.symm
 refine⟨hl,fun i a hi=>?_⟩
 have:=fG (fun z=>z[i]?) e
 simp only[fF,hi,fA] at this
 cases hm:m[i]? with
 | none=>simp[hm] at this
 | some b=>simp only[hm,fA,cG] at this;exact⟨b,rfl,this⟩
theorem uO{α β:Type}{f:α→Option β}{l:List α}{m:List β}(h:rT (l.map f)=some m)(i:Nat)(b:β)(hi:m[i]?=some b):∃a,l[i]?=some a∧f a=some b:=by
 obtain⟨hl,hg⟩:=xV h
 have hlt:i<l.length:=by rw[←hl];exact(dL.1 hi).1
 obtain⟨b',h1,h2⟩:=hg i _ (dH hlt)
 rw[hi] at h1
 cases h1
 exact⟨_,dH hlt,h2⟩
section
variable {P:Program} {w0 w w':World} {F Xc X:Nat→Prop} {ρ0:cq} {ρ:nP} {st:St} {a:Act}
theorem Has.freeze{ae:List O}{k j b:Nat}{o:O}(ho:ae[k]?=some o)(h:Has (ae.set k (nH o)) ρ j b):Has ae ρ j b∧(j=k→(∃l,o=.box l)∨∃hole e e2 n l,o=.rr hole e e2 n l):=by
 obtain⟨o',v,h1,h2,h3,h4⟩:=h
 have hlt:k<ae.length:=(dL.1 ho).1
 by_cases hj:k=j
 ·subst hj
  rw[iJ hlt] at h1
  cases h1
  cases o with
  | box l=>exact⟨⟨_,v,ho,rfl,h3,h4⟩,fun _=>.inl ⟨l,rfl⟩⟩
  | rr hole e e2 n l=>exact⟨⟨_,v,ho,rfl,h3,h4⟩,fun _=>.inr ⟨_,_,_,_,_,rfl⟩⟩
  | fwd k=>simp[nH,O.live] at h2
  | row fz e n l=>simp[nH,O.live] at h2
  | mp fz e n l=>simp[nH,O.live] at h2
  | cv l=>simp[nH,O.live] at h2
  | dead=>simp[nH,O.live] at h2
  | fresh=>simp[nH,O.live] at h2
 ·rw[fK hj] at h1
  exact⟨⟨o',v,h1,h2,h3,h4⟩,fun e=>(hj e.symm).elim⟩
theorem Rel.kq(h:Rel w0 F Xc ρ0 ρ st a w){k:Nat}{o:O}(ho:st.ae[k]?=some o):Rel w0 F Xc ρ0 ρ { st with ae:=st.ae.set k (nH o) } a w:=by
 have hlt:k<st.ae.length:=(dL.1 ho).1
 have hX:∀b,XB (st.ae.set k (nH o)) ρ Xc b→XB st.ae ρ Xc b:=fun b hb=>by
  rcases hb with⟨j,hj⟩ | hb
  ·exact .inl ⟨j,(Has.freeze ho hj).1⟩
  ·exact .inr hb
 have hs:cg (fun _=>False) w w:=.refl _ w
 have hweak:∀{v:Value} {o':O},cu w (XB st.ae ρ Xc) ρ v o'→cu w (XB (st.ae.set k (nH o)) ρ Xc) ρ v o':=fun hh=>hh.step hs (fun _ h=>h.elim) (fun b hb=>.inl (hX b hb)) (.refl _) (fun _ _ h=>h)
 refine⟨h.len,fun i d y h1 h2=>(h.env i d y h1 h2).step hs (fun _ h=>h.elim) (fun b hb=>.inl (hX b hb)) (.refl _),fun j o' hj=>?_,fun j j' b hj hj'=>h.sep j j' b (Has.freeze ho hj).1 (Has.freeze ho hj').1,
  fun b hb=>by obtain⟨j,hj⟩:=hb;exact h.own b ⟨j,(Has.freeze ho hj).1⟩,h.par,h.defers,h.frame,h.jm,fun b hb=>by obtain⟨j,hj⟩:=hb;exact h.xc b ⟨j,(Has.freeze ho hj).1⟩,fun p hp=>(h.ext p hp).step hs (fun _ h=>h.elim) (fun b hb=>.inl (hX b hb)) (.refl _)⟩
 by_cases hjk:k=j
 ·subst hjk
  rw[iJ hlt] at hj
  cases hj
  have hk:=h.ae k o ho
  cases o with
  | box l=>obtain⟨v,e1,e2⟩:=hk;exact⟨v,e1,hweak e2⟩
  | row fz e n l=>
   obtain⟨v,e1,e2⟩:=hk
   refine⟨v,e1,?_⟩
   obtain⟨q1,q2,q3,q4⟩:=hweak e2
   refine⟨q1,q2,q3,fun _ b hb hx=>?_⟩
   cases fz with
   | true=>exact q4 rfl b hb hx
   | false=>
    rcases hx with⟨j,hj⟩ | hx
    ·obtain⟨hj1,hj2⟩:=Has.freeze ho hj
     have hjk:=h.sep j k b hj1 ⟨_,v,ho,rfl,e1,.inl hb⟩
     rcases hj2 hjk with⟨l',hl'⟩ | ⟨_,_,_,_,_,hl'⟩ <;> cases hl'
    ·exact h.xc b ⟨k,_,v,ho,rfl,e1,.inl hb⟩ hx
  | mp fz e n l=>
   obtain⟨v,e1,e2⟩:=hk
   refine⟨v,e1,?_⟩
   obtain⟨q1,g,es,clock,q2,q3,q4,q5⟩:=hweak e2
   refine⟨q1,g,es,clock,q2,q3,q4,fun _ hx=>?_⟩
   have hb:bq v=some g:=by rw[q2];rfl
   cases fz with
   | true=>exact q5 rfl hx
   | false=>
    rcases hx with⟨j,hj⟩ | hx
    ·obtain⟨hj1,hj2⟩:=Has.freeze ho hj
     have hjk:=h.sep j k g hj1 ⟨_,v,ho,rfl,e1,.inl hb⟩
     rcases hj2 hjk with⟨l',hl'⟩ | ⟨_,_,_,_,_,hl'⟩ <;> cases hl'
    ·exact h.xc g ⟨k,_,v,ho,rfl,e1,.inl hb⟩ hx
  | cv l=>obtain⟨v,e1,e2⟩:=hk;exact⟨v,e1,hweak e2⟩
  | rr hole e e2 n l=>obtain⟨v,e1,e2⟩:=hk;exact⟨v,e1,hweak (o':=.rr hole e _ n l) e2⟩
  | fwd k=>exact hk
  | dead=>trivial
  | fresh=>exact hk
 ·rw[fK hjk] at hj
  have hk:=h.ae j o' hj
  cases o' with
  | box l=>obtain⟨v,e1,e2⟩:=hk;exact⟨v,e1,hweak e2⟩
  | row fz e n l=>obtain⟨v,e1,e2⟩:=hk;exact⟨v,e1,hweak e2⟩
  | mp fz e n l=>obtain⟨v,e1,e2⟩:=hk;exact⟨v,e1,hweak e2⟩
  | cv l=>obtain⟨v,e1,e2⟩:=hk;exact⟨v,e1,hweak e2⟩
  | rr hole e e2 n l=>obtain⟨v,e1,e2⟩:=hk;exact⟨v,e1,hweak (o':=.rr hole e _ n l) e2⟩
  | fwd k=>exact hk
  | dead=>trivial
  | fresh=>exact hk
theorem rU:∀(rows:List Nat) (ae:List O) (k:Nat) (fz:Bool) (e n:Nat) (l:List T),ae[k]?=some (.row fz e n l) →
 ∃fz',(ai ae rows)[k]?=some (.row fz' e n l)∧(fz=true∨k∈rows→fz'=true)
 | [],ae,k,fz,e,n,l,h=>⟨fz,h,fun hh=>hh.elim id (fun hm=>by simp at hm)⟩
 | q::rows,ae,k,fz,e,n,l,h=>by
  simp only[ai]
  split
  ·rename_i o ho
   by_cases hq:q=k
   ·subst hq
    rw[h] at ho
    cases ho
    obtain⟨fz',h1,h2⟩:=rU rows (ae.set q (nH (.row fz e n l))) q true e n l (by rw[iJ (dL.1 h).1];rfl)
    exact⟨fz',h1,fun _=>h2 (.inl rfl)⟩
   ·obtain⟨fz',h1,h2⟩:=rU rows (ae.set q (nH o)) k fz e n l (by rw[fK hq];exact h)
    refine⟨fz',h1,fun hh=>h2 ?_⟩
    rcases hh with hh | hh
    ·exact .inl hh
    ·rcases cJ.1 hh with hh | hh
     ·exact(hq hh.symm).elim
     ·exact .inr hh
  ·rename_i ho
   obtain⟨fz',h1,h2⟩:=rU rows ae k fz e n l h
   refine⟨fz',h1,fun hh=>h2 ?_⟩
   rcases hh with hh | hh
   ·exact .inl hh
   ·rcases cJ.1 hh with hh | hh
    ·subst hh;rw[h] at ho;cases ho
    ·exact .inr hh
theorem wR:∀(rows:List Nat) (ae:List O) (k:Nat) (fz:Bool) (e n:Nat) (l:List T),ae[k]?=some (.mp fz e n l) →
 ∃fz',(ai ae rows)[k]?=some (.mp fz' e n l)∧(fz=true∨k∈rows→fz'=true)
 | [],ae,k,fz,e,n,l,h=>⟨fz,h,fun hh=>hh.elim id (fun hm=>by simp at hm)⟩
 | q::rows,ae,k,fz,e,n,l,h=>by
  simp only[ai]
  split
  ·rename_i o ho
   by_cases hq:q=k
   ·subst hq
    rw[h] at ho
    cases ho
    obtain⟨fz',h1,h2⟩:=wR rows (ae.set q (nH (.mp fz e n l))) q true e n l (by rw[iJ (dL.1 h).1];rfl)
    exact⟨fz',h1,fun _=>h2 (.inl rfl)⟩
   ·obtain⟨fz',h1,h2⟩:=wR rows (ae.set q (nH o)) k fz e n l (by rw[fK hq];exact h)
    refine⟨fz',h1,fun hh=>h2 ?_⟩
    rcases hh with hh | hh
    ·exact .inl hh
    ·rcases cJ.1 hh with hh | hh
     ·exact(hq hh.symm).elim
     ·exact .inr hh
  ·rename_i ho
   obtain⟨fz',h1,h2⟩:=wR rows ae k fz e n l h
   refine⟨fz',h1,fun hh=>h2 ?_⟩
   rcases hh with hh | hh
   ·exact .inl hh
   ·rcases cJ.1 hh with hh | hh
    ·subst hh;rw[h] at ho;cases ho
    ·exact .inr hh
theorem Rel.freeze(rows:List Nat):∀{st:St},Rel w0 F Xc ρ0 ρ st a w→Rel w0 F Xc ρ0 ρ { st with ae:=ai st.ae rows } a w:=by
 induction rows with
 | nil=>intro st h;exact h
 | cons q rows ih=>
  intro st h
  simp only[ai]
  split
  ·rename_i o ho
   exact ih (h.kq ho)
  ·exact ih h
theorem LD:∀(rows:List Nat) (ae:List O) (b:Nat),XB (ai ae rows) ρ Xc b→XB ae ρ Xc b
 | [],_,_,h=>h
 | q::rows,ae,b,h=>by
  simp only[ai] at h
  split at h
  ·rename_i o ho
   rcases LD rows _ b h with⟨j,hj⟩ | hb
   ·exact .inl ⟨j,(Has.freeze ho hj).1⟩
   ·exact .inr hb
  ·exact LD rows ae b h
def O.mo:O→Bool
 | .row _ _ _ _=>true
 | .mp _ _ _ _=>true
 | _=>false
def O.ja:O→Bool
 | .row fz _ _ _=>!fz
 | .mp fz _ _ _=>!fz
 | .rr none _ _ _ _=>true
 | _=>false
def O.frozen:O→Bool
 | .row fz _ _ _=>fz
 | .mp fz _ _ _=>fz
 | _=>false
def O.ny:O→Bool
 | .row _ _ _ _=>true
 | .mp _ _ _ _=>true
 | .rr none _ _ _ _=>true
 | _=>false
theorem O.jr{o:O}(h:o.ny=true)(hf:o.frozen=false):o.live=true:=by
 cases o <;> first | rfl | (cases h;done) | (simp only[O.frozen] at hf;subst hf;rfl)
theorem O.jb{o:O}(h:o.ja=true):o.live=true:=by cases o <;> first | exact h | rfl | cases h
theorem ID(e:TypeId)(n:Nat)(l:List T):(SQ e n l).ja=true:=by unfold SQ;split <;> rfl
theorem Z5{rows:List Nat}{ae:List O}{k:Nat}{o:O}(h:ae[k]?=some o)(ho:o.mo=true)(hk:k∈rows):∃o',(ai ae rows)[k]?=some o'∧o'.frozen=true:=by
 cases o with
 | row fz e n l=>
  obtain⟨fz',h1,h2⟩:=rU rows ae k fz e n l h
  exact⟨_,h1,h2 (.inr hk)⟩
 | mp fz e n l=>
  obtain⟨fz',h1,h2⟩:=wR rows ae k fz e n l h
  exact⟨_,h1,h2 (.inr hk)⟩
 | box l=>cases ho
 | cv l=>cases ho
 | rr hole e e2 n l=>cases ho
 | fwd k=>cases ho
 | dead=>cases ho
 | fresh=>cases ho
theorem cu.frozen{X:Nat→Prop}{v:Value}{o:O}(h:cu w X ρ v o)(hf:o.frozen=true):∀b,bq v=some b→¬X b:=by
 intro b hb
 cases o with
 | row fz e n l=>exact h.2.2.2 hf b hb
 | mp fz e n l=>
  obtain⟨_,g,es,clock,q2,_,_,q5⟩:=h
  rw[q2] at hb
  simp only[bq,cG] at hb
  exact hb▸q5 hf
 | box l=>cases hf
 | cv l=>cases hf
 | rr hole e e2 n l=>cases hf
 | fwd k=>cases hf
 | dead=>cases hf
 | fresh=>cases hf
def Jd(ae:List O):C→Option C
 | .row key=>match ae[key]? with
  | some (.row _ _ n es)=>some (.t (.sl n es))
  | some (.mp _ _ n es)=>some (.t (.sl n es))
  | _=>none
 | .cut key n lo len _=>match ae[key]? with
  | some (.row _ _ n' es)=>if n'=n then some (.t (.sl n (oC es lo len))) else none
  | _=>none
 | c=>some c
def RX(ae:List O)(cs:List C):Option (List O×List C):=(rT (cs.map (Jd ae))).map fun l=>(ai ae (cs.flatMap C.rs),l)
theorem UY{objs':List O}{cs cs':List C}{ys:List Value}(h:Rel w0 F Xc ρ0 ρ st a w)(hl:bw w (XB st.ae ρ Xc) ρ cs ys)(hk:RX st.ae cs=some (objs',cs')):
 Rel w0 F Xc ρ0 ρ { st with ae:=objs' } a w∧bw w (XB objs' ρ Xc) ρ cs' ys:=by
 unfold RX at hk
 cases hs:rT (cs.map (Jd st.ae)) with
 | none=>simp[hs] at hk
 | some l=>
  simp only[hs,fA,cG,xR] at hk
  obtain⟨rfl,rfl⟩:=hk
  have hR:=h.freeze (cs.flatMap C.rs)
  refine⟨hR,?_⟩
  obtain⟨q1,q2⟩:=xV hs
  refine⟨hl.1.trans q1.symm,fun i c y h1 h2=>?_⟩
  obtain⟨c0,g1,g2⟩:=uO hs i c h1
  have hy:=hl.2 i c0 y g1 h2
  have hX:∀b,XB (ai st.ae (cs.flatMap C.rs)) ρ Xc b→XB st.ae ρ Xc b:=LD (cs.flatMap C.rs) st.ae
  have hweak:cm w (XB (ai st.ae (cs.flatMap C.rs)) ρ Xc) ρ c0 y:=hy.step (cg.refl (fun _=>False) w) (fun _ h=>h.elim) (fun b hb=>.inl (hX b hb)) (.refl _)
  unfold Jd at g2
  split at g2
  ·rename_i key
   split at g2
   ·rename_i fz e n es hob
    cases g2
    obtain⟨fz',f1,f2⟩:=rU (cs.flatMap C.rs) st.ae key fz e n es hob
    have hfz:=f2 (.inr (I5.2 ⟨_,mM g1,by simp[C.rs]⟩))
    subst hfz
    obtain⟨v,e1,e2⟩:=hR.ae key _ f1
    rcases hweak with hc | ⟨hc,h1'⟩
    ·cases hc
    ·have hcc:ρ key=some y:=hc
     rw[hcc] at e1
     cases e1
     exact .inr ⟨JI e2 (fun b hb=>hb) (fun b hb=>e2.2.2.2 rfl b hb),h1'⟩
   ·rename_i fz e n es hob
    cases g2
    obtain⟨fz',f1,f2⟩:=wR (cs.flatMap C.rs) st.ae key fz e n es hob
    have hfz:=f2 (.inr (I5.2 ⟨_,mM g1,by simp[C.rs]⟩))
    subst hfz
    obtain⟨v,e1,e2⟩:=hR.ae key _ f1
    rcases hweak with hc | ⟨hc,h1'⟩
    ·cases hc
    ·have hcc:ρ key=some y:=hc
     rw[hcc] at e1
     cases e1
     refine .inr ⟨UT e2 (fun b hb=>hb) (fun b hb=>?_),h1'⟩
     obtain⟨_,g,es',clock,q2,_,_,q5⟩:=e2
     rw[q2] at hb
     simp only[bq,cG] at hb
     exact hb▸q5 rfl
   ·cases g2
  ·rename_i key n lo len tg
   split at g2
   ·rename_i fz e n' es hob
    split at g2
    ·rename_i hn
     subst hn
     cases g2
     obtain⟨fz',f1,f2⟩:=rU (cs.flatMap C.rs) st.ae key fz e n' es hob
     have hfz:=f2 (.inr (I5.2 ⟨_,mM g1,by simp[C.rs]⟩))
     subst hfz
     obtain⟨v,e1,e2⟩:=hR.ae key _ f1
     rcases hweak with hc | ⟨⟨v',q1,q2⟩,h1'⟩
     ·cases hc
     ·rw[q1] at e1
      cases e1
      exact .inr ⟨O5 e2 q2 (fun b hb=>hb) (fun b hb=>e2.2.2.2 rfl b hb),h1'⟩
    ·cases g2
   ·cases g2
  ·cases g2;exact hweak
end
section
variable {R:Type} (P:Program)
def Xf{R:Type}(u:Option TypeDesc)(cs:List C)(k:List T→Option R):Option R:=match u,cs with
 | some (.int kd),[.t x]=>ob (x.int? kd) fun n=>k [.v (.int kd n)]
 | some .bool,[.t x]=>ob x.bool? fun b=>k [.v (.bool b)]
 | some .string,[.t x]=>ob x.il fun s=>k [.v (.string s)]
 | _,cs=>match GJ cs with
  | some ts=>k ts
  | none=>none
def MM{R:Type}(P:Program)(t:TypeId)(c:C)(k:T→Option R):Option R:=match P.underlying t,c with
 | some (.int kd),.t x=>ob (x.int? kd) fun n=>k (.v (.int kd n))
 | some .bool,.t x=>ob x.bool? fun b=>k (.v (.bool b))
 | some .string,.t x=>ob x.il fun s=>k (.v (.string s))
 | some (.slice e),.t x=>match I2 P e with
  | some n=>if n<1000000000 then ob (x.im n) fun l=>k (.sl n l) else none
  | none=>none
 | _,c=>match c.iv with
  | some x=>k x
  | none=>none
def oR{R:Type}(P:Program):List TypeId→List C→(List T→Option R)→Option R
 | [],[],k=>k []
 | t::ts,c::cs,k=>MM P t c fun x=>oR P ts cs fun xs=>k (x::xs)
 | _,_,_=>none
theorem Jb{R:Type}{P:Program}{w:World}{X:Nat→Prop}{ρ:nP}{t:TypeId}{c:C}{y:Value}{k:T→Option R}{r:R}(h:cm w X ρ c y)(hk:MM P t c k=some r):
 ∃x,k x=some r∧Rd w X x y∧y.oneCell'=true∧∀l,x≠.agg l:=by
 unfold MM at hk
 split at hk
 ·obtain⟨n,hn,hk1⟩:=bO hk
  rcases h with h | ⟨h,h1⟩
  ·cases h
  ·have:=UP h hn;subst this;exact⟨_,hk1,.v _,rfl,fun l e=>by cases e⟩
 ·obtain⟨n,hn,hk1⟩:=bO hk
  rcases h with h | ⟨h,h1⟩
  ·cases h
  ·have:=UQ h hn;subst this;exact⟨_,hk1,.v _,rfl,fun l e=>by cases e⟩
 ·obtain⟨n,hn,hk1⟩:=bO hk
  rcases h with h | ⟨h,h1⟩
  ·cases h
  ·have:=Z3 h hn;subst this;exact⟨_,hk1,.v _,rfl,fun l e=>by cases e⟩
 ·split at hk
  case h_2=>cases hk
  rename_i n hn
  split at hk
  case isFalse=>cases hk
  rename_i hnm
  obtain⟨l,hl,hk1⟩:=bO hk
  rcases h with h | ⟨h,h1⟩
  ·cases h
  ·unfold T.im at hl
   split at hl
   ·rw[aC hnm] at hl
    cases hl
    have:=Rd.cr h
    subst this
    exact⟨_,hk1,.nil n hnm,rfl,fun l e=>by cases e⟩
   ·split at hl
    ·rename_i hkk
     cases hl;subst hkk
     exact⟨_,hk1,h,h1,fun l e=>by cases e⟩
    ·cases hl
   ·cases hl
 ·split at hk
  ·rename_i x hx
   obtain⟨rfl,hn⟩:=WU hx
   rcases h with h | ⟨h,h1⟩
   ·cases h
   ·exact⟨_,hk,h,h1,hn⟩
  ·cases hk
theorem GK{R:Type}{P:Program}{w:World}{X:Nat→Prop}{ρ:nP}{r:R}:∀{ts:List TypeId} {cs:List C} {ys:List Value} {k:List T→Option R},bw w X ρ cs ys→oR P ts cs k=some r →
 ∃xs,k xs=some r∧xs.length=cs.length∧dp w X xs ys∧∀t∈xs,∀l,t≠.agg l
 | [],[],ys,k,h,hk=>⟨[],hk,rfl,⟨by simpa using h.1,fun i t y h1 _=>by simp at h1⟩,by simp⟩
 | [],_::_,ys,k,h,hk=>by simp[oR] at hk
 | _::_,[],ys,k,h,hk=>by simp[oR] at hk
 | t::ts,c::cs,ys,k,h,hk=>by
  cases ys with
  | nil=>have:=h.1;simp at this
  | cons y ys=>
   simp only[oR] at hk
   have htail:bw w X ρ cs ys:=⟨by simpa using h.1,fun i c y h1 h2=>h.2 (i+1) c y (by simpa using h1) (by simpa using h2)⟩
   obtain⟨x,hk1,hx,h1,hn⟩:=Jb (h.2 0 _ y rfl rfl) hk
   obtain⟨xs,e1,e2,e3,e4⟩:=GK htail hk1
   refine⟨x::xs,e1,by simp[e2],⟨by simpa using e3.1,fun i t y' a1 a2=>?_⟩,?_⟩
   ·cases i with
    | zero=>simp at a1 a2;subst a1;subst a2;exact⟨hx,h1⟩
    | succ i=>exact e3.2 i t y' (by simpa using a1) (by simpa using a2)
   ·intro t ht
    rcases cJ.1 ht with rfl | ht
    ·exact hn
    ·exact e4 t ht
@[irreducible] def Rh(a b:Nat):Option Unit:=if a=b then some () else none
theorem WY{a b:Nat}{x:Unit}(h:Rh a b=some x):a=b:=by
 unfold Rh at h
 split at h
 ·assumption
 ·cases h
def AA(st:St)(t:TypeId)(d v:D)(k:St→Option R):Option R:=
 match I2 P t,E3 v with
 | some n,some cs=>if cs.length=n∧cs.all Yd=true then zN d fun c=>match c with
  | .box key j=>match st.ae[key]? with
   | some (.box l)=>if j+n≤l.length∧(0<j∨UN (l.take j++cs++l.drop (j+n))=none) then k { st with ae:=st.ae.set key (.box (l.take j++cs++l.drop (j+n))) } else none
   | _=>none
  | .ic key m i j=>match RX st.ae cs with
   | some q=>match q.1[key]? with
    | some (.row false e m' es)=>oR P ((P.cellTypes P.depth t).getD []) q.2 fun ts=>if m=m'∧j+n≤m then ob (aX es i) fun x=>k { st with ae:=q.1.set key (.row false e m (es.set i (x.ax m j ts))) } else none
    | _=>none
   | none=>none
  | .ko key i=>match A2 st.ae 64 key,cs with
   | some K,[.fg k3 i3]=>match st.ae[K]? with
    | some (.rr (some hi) e e2 m l)=>if k3=K then ob (Rh i i3) fun _=>ob (Rh hi i) fun _=>ob (aX l i) fun _=>k { st with ae:=st.ae.set K (.rr none e e2 m l) } else none
    | _=>none
   | _,_=>none
  | _=>none
  else none
 | _,_=>none
def uA:Option O→Bool
 | some .fresh=>true
 | _=>false
def AB(st:St):Option Nat:=((List.range st.ae.length).filter fun i=>decide (st.np≤i)&&uA st.ae[i]?).head?
def qP(st:St)(dst:Option Nat)(o:O)(k:St→Nat→Option R):Option R:=
 match dst with
 | some d=>match st.ae[st.np+d]? with
  | some .fresh=>k { st with ae:=st.ae.set (st.np+d) o } (st.np+d)
  | _=>match st.ae[st.np+(st.env.length+d)]? with
   | some .fresh=>k { st with ae:=st.ae.set (st.np+(st.env.length+d)) o } (st.np+(st.env.length+d))
   | _=>match AB st with
    | some K=>k { st with ae:=st.ae.set K o } K
    | none=>none
 | none=>none
end
theorem wQ(w:World)(g:Nat)(cs:Array Value):cg (fun b=>b=g) w (w.setRow g cs):=
 ⟨rfl,rfl,rfl,by simp,fun b _ hb=>setRow_other w g b cs hb⟩
def ax(ρ:nP)(k:Nat)(h:Value):nP:=fun j=>if j=k then some h else ρ j
section
variable {R:Type} {P:Program} {w0 w w':World} {F Xc:Nat→Prop} {ρ0:cq} {ρ:nP} {st:St} {a:Act} {r:R}
theorem Rel.kp(h:Rel w0 F Xc ρ0 ρ st a w):Rel w0 F Xc ρ0 ρ { st with ae:=st.ae } a w:=h
theorem Rel.mi(h:Rel w0 F Xc ρ0 ρ st a w){key:Nat}{o:O}{hv:Value}(hf:st.ae[key]?=some .fresh)(hs:cg (fun _=>False) w w')
 (hb:∀b,df hv b→w.heap.size≤b)
 (hok:∀X',(∀b,X' b→XB st.ae ρ Xc b∨w.heap.size≤b)→cu w' X' (ax ρ key hv) hv o) (hnp:st.np≤key) (hof:o≠.fresh):
 Rel w0 F Xc ρ0 (ax ρ key hv) { st with ae:=st.ae.set key o } a w':=by
 have hnone:ρ key=none:=h.ae key _ hf
 have hlt:key<st.ae.length:=(dL.1 hf).1
 have hρ:gj ρ (ax ρ key hv):=fun j v hj=>by
  unfold ax
  split
  ·rename_i e;subst e;rw[hnone] at hj;cases hj
  ·exact hj
 have hH:∀b,Has (st.ae.set key o) (ax ρ key hv) key b→df hv b:=fun b hh=>by
  obtain⟨o',v,g1,g2,h3,h4⟩:=hh
  simp only[ax,eY,cG] at h3
  exact h3▸h4
 refine h.change (st.ae.set key o) (ax ρ key hv) (·=key) hs (fun j hj=>⟨by rw[fK (fun e=>hj e.symm)],by unfold ax;rw[aA hj]⟩) hρ (fun _ hb=>hb.elim)
  (fun j b hj hh=>?_) (fun j j' b hj hj' _ _=>hj.trans hj'.symm) (fun hX j o' hj ho=>?_) (fun j hj=>by unfold ax;rw[aA (by omega)])
 ·subst hj;exact .inr (hb b (hH b hh))
 ·subst hj
  rw[iJ hlt] at ho
  cases ho
  have hk:=hok _ hX
  unfold Uv
  split
  ·trivial
  ·exact(hof rfl).elim
  ·exact⟨hv,by simp[ax],hk⟩
theorem Rel.new(h:Rel w0 F Xc ρ0 ρ st a w){key:Nat}{o:O}{hv:Value}(hf:st.ae[key]?=some .fresh)(hs:cg (fun _=>False) w w')
 (hb:∀b,bq hv=some b→w.heap.size≤b)
 (hok:∀X',(∀b,X' b→XB st.ae ρ Xc b∨w.heap.size≤b)→cu w' X' (ax ρ key hv) hv o) (hnp:st.np≤key) (hof:o≠.fresh) (h1:hv.oneCell'=true:=by first | rfl | exact rowAt.one (by assumption)):
 Rel w0 F Xc ρ0 (ax ρ key hv) { st with ae:=st.ae.set key o } a w':=h.mi hf hs (fun b hb'=>hb b (hb'.one h1)) hok hnp hof
theorem Rel.lp(h:Rel w0 F Xc ρ0 ρ st a w){key:Nat}{cs:List C}{ys:Array Value}(e:TypeId)(hf:st.ae[key]?=some .fresh)(hl:bw w (XB st.ae ρ Xc) ρ cs ys.toList)(hhd:da cs w.heap.size ys e)(hnp:st.np≤key):
 ∃ρ',Rel w0 F Xc ρ0 ρ' { st with ae:=st.ae.set key (.box cs) } a (w.alloc (.cells ys e))∧gj ρ ρ'∧ρ' key=some (.pointer (some ⟨w.heap.size,0,none⟩)):=by
 have hnone:ρ key=none:=h.ae key _ hf
 have hρ:gj ρ (ax ρ key (.pointer (some ⟨w.heap.size,0,none⟩))):=fun j v hj=>by
  unfold ax
  split
  ·rename_i e;subst e;rw[hnone] at hj;cases hj
  ·exact hj
 refine⟨_,h.new (hv:=.pointer (some ⟨w.heap.size,0,none⟩)) hf (cg.alloc _ _ _) (fun b hb=>by simp only[bq,cG] at hb;omega) (fun X' hX=>?_) hnp (by simp),hρ,by simp[ax]⟩
 exact⟨w.heap.size,ys,e,rfl,heap_alloc_new w _,hhd,hl.step (cg.alloc (fun _=>False) _ _) (fun _ hb=>False.elim hb) hX hρ⟩
theorem MN{st:St}{K:Nat}(h:AB st=some K):st.np≤K∧st.ae[K]?=some .fresh:=by
 unfold AB at h
 have hm:=T5 h
 obtain⟨_,h2⟩:=B8.1 hm
 simp only[cS,bE] at h2
 refine⟨h2.1,?_⟩
 have:=h2.2
 unfold uA at this
 split at this
 ·rename_i ho;exact ho
 ·cases this
theorem CW{dst:Option Nat}{o:O}{k:St→Nat→Option R}(hk:qP st dst o k=some r):
 ∃d,True∧st.ae[st.np+d]?=some .fresh∧k { st with ae:=st.ae.set (st.np+d) o } (st.np+d)=some r:=by
 unfold qP at hk
 split at hk
 ·split at hk
  ·exact⟨_,trivial,by assumption,hk⟩
  ·split at hk
   ·exact⟨_,trivial,by assumption,hk⟩
   ·split at hk
    ·rename_i K hK
     obtain⟨h1,h2⟩:=MN hK
     obtain⟨q,rfl⟩:∃q,K=st.np+q:=⟨K-st.np,by omega⟩
     exact⟨q,trivial,h2,hk⟩
    ·cases hk
 ·cases hk
theorem Rel.lq(h:Rel w0 F Xc ρ0 ρ st a w){key:Nat}{l l':List C}{hv:Value}{g:Nat}{ys zs:Array Value}{ty:TypeId}(ho:st.ae[key]?=some (.box l))(hh:ρ key=some hv)
 (hg:hv=.pointer (some ⟨g,0,none⟩)) (hw:w.heap[g]?=some (.cells ys ty (0,0))) (hhd:da l' g zs ty) (hl:bw w (XB st.ae ρ Xc) ρ l' zs.toList):
 Rel w0 F Xc ρ0 ρ { st with ae:=st.ae.set key (.box l') } a (w.setRow g zs):=by
 have hlt:key<st.ae.length:=(dL.1 ho).1
 have hblk:bq hv=some g:=by rw[hg];rfl
 have hHas:Has st.ae ρ key g:=⟨_,hv,ho,rfl,hh,.inl hblk⟩
 have hH:∀b,Has (st.ae.set key (.box l')) ρ key b→b=g:=fun b hb=>by
  obtain⟨o',v,_,_,h3,h4⟩:=hb
  rw[hh] at h3
  cases h3
  replace h4:=h4.one (by rw[hg];rfl)
  rw[hblk] at h4
  cases h4
  rfl
 refine h.change _ ρ (·=key) (wQ w g zs) (fun j hj=>⟨by rw[fK (fun e=>hj e.symm)],rfl⟩) (.refl _) (fun b hb=>⟨key,rfl,hb▸hHas⟩)
  (fun j b hj hb=>?_) (fun j j' b hj hj' _ _=>hj.trans hj'.symm) (fun hX j o' hj ho'=>?_) (fun _ _=>rfl)
 ·subst hj
  exact .inl ⟨_,rfl,hH b hb▸hHas⟩
 ·subst hj
  rw[iJ hlt] at ho'
  cases ho'
  refine⟨hv,hh,g,zs,ty,hg,setRow_heap w g ys zs ty (0,0) hw,hhd,hl.step (wQ w g zs) (fun b hb=>?_) hX (.refl _)⟩
  exact .inl ⟨_,hb▸hHas⟩
theorem CZ{t:TypeId}{n:Nat}{g j:Nat}{v:Value}{jD:Array Value}{ty:TypeId}(hn:I2 P t=some n)(hv:v.cells.size=n)(hg:w.heap[g]?=some (.cells jD ty (0,0)))
 (hfit:j+n≤jD.size) (h1:∀x∈v.cells.toList,x.oneCell'=true):
 (storeVar t ⟨g,j,none⟩ v).run P w=.ok () (w.setRow g (jD.toList.take j++v.cells.toList++jD.toList.drop (j+n)).toArray):=by
 unfold storeVar
 simp only[Sem.run_bind,iL hn,Result.andThen_ok]
 rw[aA (by simp[hv])]
 have:=run_storeCells_at P g j ty v.cells.toList 0 jD w hg (by rw[mO];omega) h1
 simp only[rH,mO,hv] at this
 exact this
theorem HI{α:Type}(l:List α)(j n:Nat)(m:List α)(h:j+n≤l.length)(hm:m.length=n):(l.take j++m++l.drop (j+n)).length=l.length:=by
 simp;omega
theorem Jc{n:Nat}{l:List T}(hu:dt n l){i j:Nat}{x:T}(hi:l[i]?=some x){ts:List T}(hj:j+ts.length≤n)(ht:∀t∈ts,∀m,t≠.agg m)
 (hx:∀t∈x.cells,∀m,t≠.agg m):
 dt n (l.set i (x.ax n j ts))∧flat (l.set i (x.ax n j ts))=(flat l).take (i*n+j)++ts++(flat l).drop (i*n+j+ts.length):=by
 have hxn:x.cells.length=n:=hu x (mM hi)
 obtain⟨hlt,rfl⟩:=dL.1 hi
 have hcells:∀t∈(l[i].cells.take j++ts++l[i].cells.drop (j+ts.length)),∀m,t≠.agg m:=by
  intro t htm
  simp only[fL] at htm
  rcases htm with(htm | htm) | htm
  ·exact hx t (H5 htm)
  ·exact ht t htm
  ·exact hx t (T2 htm)
 have hcl:(l[i].ax n j ts).cells=l[i].cells.take j++ts++l[i].cells.drop (j+ts.length):=by
  unfold T.ax
  exact LC (by simp;omega) hcells
 constructor
 ·intro t htm
  rcases List.mem_or_eq_of_mem_set htm with h | rfl
  ·exact hu t h
  ·rw[hcl];simp;omega
 ·rw[ZL,aC hlt,xS,qW,hcl]
  have e1:=hu.de i
  have e2:=hu.ct (i+1)
  have e3:=hu.ct i
  rw[ZJ hlt,qW] at e3
  rw[e1,e2]
  have hle:i*n+n≤(flat l).length:=by
   rw[hu.length]
   have:(i+1)*n≤l.length*n:=EV _ hlt
   rw[tM] at this;omega
  have c1:l[i].cells.take j=((flat l).drop (i*n)).take j:=by
   rw[←e3,List.take_append_of_le_length (by omega)]
  have c2:l[i].cells.drop (j+ts.length)=((flat l).drop (i*n+j+ts.length)).take (n-(j+ts.length)):=by
   have:=fG (fun z=>z.drop (j+ts.length)) e3
   simp only[OO] at this
   rw[ZM (by omega)] at this
   rw[show i*n+j+ts.length=i*n+(j+ts.length) by omega,←this,List.take_append_of_le_length (by simp;omega),H6 (by simp;omega)]
  rw[c1,c2]
  have f1:(flat l).take (i*n)++((flat l).drop (i*n)).take j=(flat l).take (i*n+j):=by rw[List.take_add]
  have f2:((flat l).drop (i*n+j+ts.length)).take (n-(j+ts.length))++(flat l).drop ((i+1)*n)=(flat l).drop (i*n+j+ts.length):=by
   have hsp:=List.take_append_drop (n-(j+ts.length)) ((flat l).drop (i*n+j+ts.length))
   rw[OO] at hsp
   rw[show i*n+j+ts.length+(n-(j+ts.length))=(i+1)*n by rw[tM];omega] at hsp
   exact hsp
  simp only[I7]
  rw[←I7,f1,f2]
theorem dp.mj{X:Nat→Prop}{l:List T}{ys:List Value}(h:dp w X l ys):∀t∈l,∀m,t≠.agg m:=by
 rintro t ht m rfl
 obtain⟨i,hi,he⟩:=B7 ht
 have hl:=h.1
 have:=h.2 i _ (ys[i]'(by omega)) (dH hi) (dH _)
 rw[he] at this
 obtain⟨h1,h2⟩:=this
 generalize ys[i]'(by omega)=y at h1 h2
 cases h1
 simp[Value.oneCell'] at h2
theorem dp.splice{X:Nat→Prop}{l m:List T}{ys zs:List Value}(h:dp w X l ys)(h':dp w X m zs){p:Nat}(hp:p+m.length≤l.length):
 dp w X (l.take p++m++l.drop (p+m.length)) (ys.take p++zs++ys.drop (p+m.length)):=by
 have hl:=h.1
 have hl':=h'.1
 refine⟨by simp;omega,fun i t y h1 h2=>?_⟩
 simp only[I7] at h1 h2
 rw[rR] at h1 h2
 simp only[nM] at h1 h2
 rw[show min p l.length=p by omega] at h1
 rw[show min p ys.length=p by omega] at h2
 by_cases c1:i<p
 ·rw[aC c1,pT,aC c1] at h1
  rw[aC c1,pT,aC c1] at h2
  exact h.2 i t y h1 h2
 ·rw[aA c1,rR] at h1
  rw[aA c1,rR] at h2
  by_cases c2:i-p<m.length
  ·rw[aC c2] at h1
   rw[aC (by omega)] at h2
   exact h'.2 _ t y h1 h2
  ·rw[aA c2,tO] at h1
   rw[aA (by omega),tO,hl'] at h2
   exact h.2 _ t y h1 h2
theorem WZ{α:Type}(l m:List α)(p q:Nat)(h:p+m.length≤q)(hq:q≤l.length):
 (l.take p++m++l.drop (p+m.length)).take q=(l.take q).take p++m++(l.take q).drop (p+m.length):=by
 rw[ZI,H6 (by simp;omega),List.take_take,show min p q=p by omega,OP]
 simp only[tL,nM]
 rw[show q-(min p l.length+m.length)=q-(p+m.length) by omega]
theorem W0{α:Type}(l m:List α)(o p q:Nat)(h:o+p≤l.length):(l.take (o+p)++m++l.drop (o+p+q)).drop o=(l.drop o).take p++m++(l.drop o).drop (p+q):=by
 have h1:(l.take (o+p)).drop o=(l.drop o).take p:=by rw[OP];congr 1;omega
 have h2:l.drop (o+p+q)=(l.drop o).drop (p+q):=by rw[OO];congr 1;omega
 rw[I7,ZM (by rw[nM];omega),h1,h2,I7]
theorem Sj{α:Type}(l:List α)(off n i:Nat)(v:α)(hi:i<n)(hl:off+n≤l.length):((l.take (off+i)++[v]++l.drop (off+i+1)).drop off).take n=((l.drop off).take n).set i v:=by
 have e:l.take (off+i)++[v]++l.drop (off+i+1)=l.set (off+i) v:=by
  rw[ZL,aC (by omega)];simp
 rw[e]
 apply EU
 intro j
 rw[pT,tO,qO,qO,pT,tO,nM,MK]
 by_cases h1:i=j
 ·subst h1
  rw[aC hi,aC rfl,aC (by omega),aC rfl,aC (by omega)]
 ·rw[aA (show ¬(off+i=off+j) by omega),aA h1]
theorem Rel.jq(h:Rel w0 F Xc ρ0 ρ st a w){K i:Nat}{e e2:TypeId}{m:Nat}{l:List (List T)}{vs:Array Value}{ho v:Value}{ad:Addr}(hob:st.ae[K]?=some (.rr (some i) e e2 m l))(hK:ρ K=some (.tuple vs))
 (hh:vs[0]?=some ho) (hi:vs[i+1]?=some v) (h1:v.oneCell'=true) (hil:i<l.length) (hba:JE ho=some ad) {t:TypeId} (hn:I2 P t=some 1) {vv:Value} (hvc:vv.cells.toList=[v]):
 ∃w',(storeVar t (ad.add i) vv).run P w=.ok () w'∧Rel w0 F Xc ρ0 ρ { st with ae:=st.ae.set K (.rr none e e2 m l) } a w':=by
 obtain⟨hv',e1,h0,ho',hs,xs,g1,g2,g3,g4,g5,g6⟩:=h.ae K _ hob
 rw[hK] at e1
 cases e1
 cases g1
 have:ho'=ho:=by simpa using hh
 subst this
 have hsi:hs[i]?=some v:=by simpa using hi
 have hrow:=g2
 have hxl:=g2.1
 rw[HF] at hxl
 rcases g2.2 with⟨_,hz⟩ | ⟨g,off,cap,jD,z1,z2,z3,z4,z5,z6,z7⟩
 ·omega
 have had:ad=⟨g,off,none⟩:=by rw[z1] at hba;simpa[JE] using hba.symm
 subst had
 have hadd:(⟨g,off,none⟩:Addr).add i=⟨g,off+i,none⟩:=by unfold Addr.add;split <;> simp_all
 have hrun:=CZ (P:=P) (t:=t) (v:=vv) (j:=off+i) hn (by rw[←mO,hvc];rfl) z3 (by omega) (fun x hx=>by rw[hvc] at hx;simp at hx;rw[hx];exact h1)
 rw[hvc] at hrun
 refine⟨_,by rw[hadd];exact hrun,?_⟩
 have hlt:K<st.ae.length:=(dL.1 hob).1
 have hblk:bq ho'=some g:=by rw[z1];simp[bq];omega
 have hHas:Has st.ae ρ K g:=⟨_,_,hob,rfl,hK,.inr ⟨_,rfl,ho',by simp,hblk⟩⟩
 have hstp:=wQ w g (jD.toList.take (off+i)++[v]++jD.toList.drop (off+i+1)).toArray
 refine h.change _ ρ (·=K) hstp (fun jj hj=>⟨by rw[fK (fun e=>hj e.symm)],rfl⟩) (.refl _) (fun b hb=>⟨K,rfl,hb▸hHas⟩)
  (fun jj b hj hb=>?_) (fun jj j' b hj hj' _ _=>hj.trans hj'.symm) (fun hX jj o' hj ho2=>?_) (fun _ _=>rfl)
 ·subst hj
  obtain⟨o',v',_,_,q3,q4⟩:=hb
  exact .inl ⟨_,rfl,_,v',hob,rfl,q3,q4⟩
 ·subst hj
  rw[iJ hlt] at ho2
  cases ho2
  have hcl:jD.toList.length=jD.size:=mO
  have hoff:∀(j:Nat) y,(ho'::hs)[j+1]?=some y→bq y≠some g:=fun j y hj hb=>by
   have:=g6 0 (j+1) ho' y g rfl hj hblk hb
   omega
  refine⟨_,hK,h0,ho',hs,xs.set i v,rfl,⟨by rw[dP];exact hrow.1,.inr ⟨g,off,cap,_,z1,z2,setRow_heap w g jD _ _ _ z3,z4,z5,?_,?_⟩⟩,g3,fun j y z q1 q2=>?_,fun j mm y q1 q2=>?_,g6⟩
  ·rw[T6,tL,tL,nM,MK,T7];omega
  ·rw[HF,←z7,HF]
   exact Sj _ _ _ _ _ hil (by omega)
  ·rw[qO] at q1
   by_cases hij:i=j
   ·subst hij
    rw[aC rfl] at q1
    split at q1
    ·cases q1
     rw[hsi] at q2
     cases q2
     exact⟨h1,fun _=>rfl⟩
    ·cases q1
   ·rw[aA hij] at q1
    obtain⟨f1,f2⟩:=g4 j y z q1 q2
    exact⟨f1,fun _=>f2 (fun e=>hij (by cases e;rfl))⟩
  ·obtain⟨f1,ys,f2,f3⟩:=g5 j mm y q1 q2
   exact⟨f1,ys,f2.step hstp (fun b hb hy=>hoff j y (by simpa using q2) (by rw[hb,hy])),f3.step hstp (fun b hb=>.inl ⟨_,hb▸hHas⟩) hX⟩
theorem Fg{t:TypeId}{d v:D}{vd vv:Value}{k:St→Option R}(h:Rel w0 F Xc ρ0 ρ st a w)(hd:bc w (XB st.ae ρ Xc) ρ d vd)(hv:bc w (XB st.ae ρ Xc) ρ v vv)
 (hk:AA P st t d v k=some r):∃st' w',(Instr.storeAt t vd vv).run P w=.ok () w'∧Rel w0 F Xc ρ0 ρ st' a w'∧k st'=some r:=by
 unfold AA at hk
 split at hk
 case h_2=>cases hk
 rename_i n cs hn hcs
 split at hk
 case isFalse=>cases hk
 rename_i hc
 obtain⟨hlen,hok⟩:=hc
 have hl:=CA hv hcs
 have h1:=hl.mh hok
 have hsz:vv.cells.size=n:=by have:=hl.1;rw[mO] at this;omega
 obtain⟨c,rfl,hc,hk9⟩:=uX hd hk
 clear hk
 have hk:=hk9
 clear hk9
 cases c with
 | box key j=>
  dsimp only at hk
  split at hk
  case h_2=>cases hk
  rename_i l hob
  split at hk
  case isFalse=>cases hk
  rename_i hle
  obtain⟨hle,htl⟩:=hle
  rcases hc with hc | ⟨⟨hv',e1,ba,e2,e3⟩,_⟩
  ·cases hc
  ·obtain⟨hv'',f1,g,ys,ty,f2,f3,f0,f4⟩:=h.ae key _ hob
   rw[e1] at f1
   cases f1
   rw[f2] at e2
   simp only[JE,cG] at e2
   subst e2
   subst e3
   have hadd:(⟨g,0,none⟩:Addr).add j=⟨g,j,none⟩:=by unfold Addr.add;split <;> simp_all
   have hyl:=f4.1
   rw[mO] at hyl
   have hrun:=CZ (P:=P) (t:=t) hn hsz f3 (j:=j) (by omega) h1
   refine⟨_,_,?_,h.lq (l':=l.take j++cs++l.drop (j+n)) (zs:=(ys.toList.take j++vv.cells.toList++ys.toList.drop (j+n)).toArray) hob e1 f2 f3 ?_ ?_,hk⟩
   ·simp only[Instr.storeAt,Instr.sureAddr,Sem.run_bind,Sem.run_pure,Result.andThen_ok,hadd]
    exact hrun
   ·rcases htl with hj | hj
    ·intro u hu
     cases j with
     | zero=>omega
     | succ j=>
      cases l with
      | nil=>simp at hle
      | cons c0 l0=>
       have h0:=B9.1 hu
       simp only[ZH,List.cons_append,zY] at h0
       obtain⟨q1,y,q2,q3⟩:=f0 u (B9.2 (by simpa using h0))
       refine⟨q1,y,?_,q3⟩
       cases hz:ys.toList with
       | nil=>rw[←MH,hz] at q2;cases q2
       | cons z zs=>
        rw[←MH,hz] at q2
        simp only[ZH,List.cons_append,KY,zY] at q2 ⊢
        exact q2
    ·exact .none hj
   ·exact((f4.take j).append hl).append (f4.drop (j+n))
 | ic key m i j=>
  dsimp only at hk
  split at hk
  case h_2=>cases hk
  rename_i q hfq
  obtain⟨objs',cs'⟩:=q
  obtain⟨h,hl⟩:=UY h hl hfq
  have hlen:cs'.length=n:=by have:=hl.1;rw[mO] at this;omega
  dsimp only at hk
  split at hk
  case h_2=>cases hk
  rename_i e m' es hob
  have hk9:=GK hl hk
  clear hk
  obtain⟨ts,hk,t1,t2,t3⟩:=hk9
  split at hk
  case isFalse=>cases hk
  rename_i hle
  obtain⟨rfl,hle⟩:=hle
  obtain⟨x,hx,hk⟩:=bO hk
  have hx:=CB hx
  rcases hc with hc | ⟨⟨hv',e1,ba,e2,e3⟩,_⟩
  ·cases hc
  ·obtain⟨hv'',f1,f2⟩:=h.ae key _ hob
   rw[e1] at f1
   cases f1
   have f2':=f2
   obtain⟨h0,hu,⟨xs,hown,hr⟩,hf⟩:=f2'
   have hxa:∀t∈x.cells,∀l,t≠.agg l:=fun t ht=>hr.mj t (by
    unfold flat
    exact I5.2 ⟨x,mM hx,ht⟩)
   obtain⟨u1,u2⟩:=Jc hu hx (ts:=ts) (j:=j) (by omega) t3 hxa
   rcases hown.2 with⟨z1 | ⟨az,z1⟩,z2⟩ | ⟨g,off,cap,jD,z1,z2,z3,z4,z5,z6,z7⟩
   ·rw[z1] at e2;simp[JE] at e2
   ·have:es=[]:=uK z2
    subst this
    simp at hx
   ·rw[z1] at e2
    simp only[JE,cG] at e2
    subst e2
    subst e3
    have hil:i<es.length:=(dL.1 hx).1
    have hmul:(i+1)*m≤es.length*m:=EV _ hil
    rw[tM] at hmul
    have hcapm:es.length*m≤cap*m:=EV _ z4
    have hadd:(⟨g,off,none⟩:Addr).add (i*m+j)=⟨g,off+(i*m+j),none⟩:=by unfold Addr.add;split <;> simp_all
    have hrun:=CZ (P:=P) (t:=t) hn hsz z3 (j:=off+(i*m+j)) (by omega) h1
    have hflt:(flat es).length=es.length*m:=hu.length
    have hcl:off+cap*m≤jD.toList.length:=by rw[mO];exact z6
    have hdl:(jD.toList.drop off).length=jD.toList.length-off:=MK
    have hxl:xs.length=es.length*m:=hown.1
    have hvl:vv.cells.toList.length=n:=by rw[mO];exact hsz
    refine⟨_,w.setRow g (jD.toList.take (off+(i*m+j))++vv.cells.toList++jD.toList.drop (off+(i*m+j)+n)).toArray,?_,?_,hk⟩
    ·simp only[Instr.storeAt,Instr.sureAddr,Sem.run_bind,Sem.run_pure,Result.andThen_ok,hadd]
     exact hrun
    ·have hlt:key<objs'.length:=(dL.1 hob).1
     have hblk:bq hv'=some g:=by rw[z1];simp[bq];omega
     have hHas:Has objs' ρ key g:=⟨_,hv',hob,rfl,e1,.inl hblk⟩
     refine h.change _ ρ (·=key) (wQ w g _) (fun jj hj=>⟨by rw[fK (fun e=>hj e.symm)],rfl⟩) (.refl _) (fun b hb=>⟨key,rfl,hb▸hHas⟩)
      (fun jj b hj hb=>?_) (fun jj j' b hj hj' _ _=>hj.trans hj'.symm) (fun hX jj o' hj ho'=>?_) (fun _ _=>rfl)
     ·subst hj
      obtain⟨o',v,_,_,q3,q4⟩:=hb
      rw[e1] at q3
      cases q3
      have q5:=q4.one (by rw[z1];rfl)
      rw[hblk] at q5
      cases q5
      exact .inl ⟨_,rfl,hHas⟩
     ·subst hj
      rw[iJ hlt] at ho'
      cases ho'
      refine⟨hv',e1,h0,u1,⟨xs.take (i*m+j)++vv.cells.toList++xs.drop (i*m+j+n),⟨?_,.inr ⟨g,off,cap,_,by rw[dP];exact z1,z2,setRow_heap w g jD _ e (0,0) z3,by rw[dP];exact z4,z5,?_,?_⟩⟩,?_⟩,fun hc=>by cases hc⟩
      ·rw[HI _ _ _ _ (by omega) hvl,dP];exact hown.1
      ·rw[T6,HI _ _ _ _ (by omega) hvl,mO];exact z6
      ·have:=WZ (jD.toList.drop off) vv.cells.toList (i*m+j) (es.length*m) (by omega) (by omega)
       rw[hvl] at this
       rw[dP,W0 _ _ _ _ _ (by omega),this,z7]
      ·rw[u2]
       have hr':dp (w.setRow g (jD.toList.take (off+(i*m+j))++vv.cells.toList++jD.toList.drop (off+(i*m+j)+n)).toArray) (XB (objs'.set jj (O.row false e m (es.set i (T.ax m x j ts)))) ρ Xc) (flat es) xs:=
        hr.step (wQ w g _) (fun b hb=>.inl ⟨_,hb▸hHas⟩) hX
       have ht':=t2.step (wQ w g (jD.toList.take (off+(i*m+j))++vv.cells.toList++jD.toList.drop (off+(i*m+j)+n)).toArray) (fun b hb=>.inl ⟨_,hb▸hHas⟩) hX
       have htl:ts.length=n:=by omega
       rw[htl]
       have:=hr'.splice ht' (p:=i*m+j) (by omega)
       rw[htl] at this
       exact this
 | ko key i=>
  dsimp only at hk
  split at hk
  case h_2=>cases hk
  rename_i K k3 i3 hK
  split at hk
  case h_2=>cases hk
  rename_i hi e e2 m l hob
  split at hk
  case isFalse=>cases hk
  rename_i hkk
  obtain⟨_,q1,hk1⟩:=bO hk
  obtain⟨_,q2,hk2⟩:=bO hk1
  obtain⟨x,q3,hk3⟩:=bO hk2
  have q1:=WY q1
  have q2:=WY q2
  have q3:=CB q3
  subst q2
  subst q1
  subst hkk
  rcases hc with hc | ⟨⟨vs,hv',e1,e2',ba,e3,e4⟩,_⟩
  ·cases hc
  ·obtain⟨hole,_,_,_,_,vs',f1,f2,f3,f4⟩:=CV h hK e1
   rw[hob] at f1
   cases f1
   have hvv:∀y,vv.cells.toList[0]?=some y→cm w (XB st.ae ρ Xc) ρ (.fg k3 hi) y:=fun y=>hl.2 0 (.fg k3 hi) y rfl
   have hcl:vv.cells.toList.length=1:=by have:=hl.1;simpa using this
   have hn1:n=1:=by rw[←hlen];rfl
   subst hn1
   have hvc:∃u,vv.cells.toList=[u]∧u.oneCell'=true∧vs'[hi+1]?=some u:=by
    have hvx:∃u,vv.cells.toList=[u]:=by
     match hh:vv.cells.toList,hcl with
     | [u],_=>exact⟨u,rfl⟩
    obtain⟨u,hu⟩:=hvx
    have h2:=hvv u (by rw[hu];rfl)
    rcases h2 with h2 | ⟨⟨vs2,p1,p2⟩,p3⟩
    ·cases h2
    ·rw[f2] at p1
     cases p1
     exact⟨u,hu,p3,p2⟩
   obtain⟨u,hu1,hu2,hu3⟩:=hvc
   obtain⟨w',r1,r2⟩:=Rel.jq (P:=P) (t:=t) h hob f2 (f3.trans e2') hu3 hu2 (dL.1 q3).1 e3 hn hu1
   exact⟨_,w',by rw[e4];simp only[Instr.storeAt,Instr.sureAddr,Sem.run_bind,Sem.run_pure,Result.andThen_ok];exact r1,r2,hk3⟩
 | rk _=>cases hk
 | fg _ _=>cases hk
 | t x=>cases hk
 | row k'=>cases hk
 | pe m x j=>cases hk
 | fn f' cs'=>cases hk
 | self _=>cases hk
 | cut _ _ _ _ _=>cases hk
 | fe=>cases hk
 | top=>cases hk
end
section
variable {P:Program} {w:World}
theorem HJ(b:Nat)(e:TypeId)(fr:Nat×Nat):∀(vs:List Value) (o:Nat) (w:World) (jD:Array Value),w.heap[b]?=some (.cells jD e fr)→o+vs.length≤jD.size →
 (w.setCells b o vs).heap[b]?=some (.cells (jD.toList.take o++vs++jD.toList.drop (o+vs.length)).toArray e fr)
 | [],o,w,jD,h,hl=>by simp[World.setCells,h]
 | v::vs,o,w,jD,h,hl=>by
  simp only[oA] at hl
  have h1:(w.setCell ⟨b,o,none⟩ v).heap[b]?=some (.cells (jD.setIfInBounds o v) e fr):=by simp[World.setCell,T0,h]
  have:=HJ b e fr vs (o+1) (w.setCell ⟨b,o,none⟩ v) (jD.setIfInBounds o v) h1 (by simp;omega)
  simp only[World.setCells]
  rw[this]
  congr 3
  have hs:(jD.setIfInBounds o v).toList=jD.toList.take o++v::jD.toList.drop (o+1):=by
   rw[Array.toList_setIfInBounds,ZL,aC (by rw[mO];omega)]
  have hlo:(jD.toList.take o).length=o:=by rw[nM,mO];omega
  rw[hs]
  have e1:(jD.toList.take o++v::jD.toList.drop (o+1)).take (o+1)=jD.toList.take o++[v]:=by
   rw[ZI,hlo,H6 (by omega),T1];rfl
  have e2:(jD.toList.take o++v::jD.toList.drop (o+1)).drop (o+1+vs.length)=jD.toList.drop (o+(vs.length+1)):=by
   rw[List.drop_append,hlo,List.drop_of_length_le (by omega),ZE,show o+1+vs.length-o=vs.length+1 by omega,List.drop_succ_cons,OO]
   congr 1;omega
  rw[e1,e2]
  simp
theorem E4(b:Nat):∀(vs:List Value) (o:Nat) (w:World),w.grownBy (w.setCells b o vs) (some b)
 | [],o,w=>World.grownBy.refl w _
 | v::vs,o,w=>by
  have h:=E4 b vs (o+1) (w.setCell ⟨b,o,none⟩ v)
  exact⟨h.os,h.tape,h.output,by have:=h.size;have e:(w.setCell ⟨b,o,none⟩ v).heap.size=w.heap.size:=(by simp[World.setCell]);rw[e] at this;exact this,fun k hk hne=>by
   simp only[World.setCells]
   rw[h.block k (by simpa[World.setCell] using hk) hne]
   exact Below.heap_setCell w ⟨b,o,none⟩ v k (fun e=>hne (by rw[e]))⟩
theorem O7{t tx ty e:TypeId}{i:TypeInfo}(ht:P.underlying t=some (.slice e))(hi:P.info? e=some i)(base:Option Addr){x:Value}(hs:Src P i.size tx x 0 [] w):
 (Builtin.append_ #[t,tx] ty #[.slice base 0 0,x]).run P w=.ok (.slice base 0 0) w:=by
 rcases hs.kind with⟨e',hk⟩ | hk <;> cases base <;> simp[Builtin.append_,run_underlying ht,run_underlying hk,sizeOf,typeInfo,hi,hs.len,hs.cells,storeCells]
theorem AC{t tx ty e:TypeId}{i:TypeInfo}{z:Value}(ht:P.underlying t=some (.slice e))(hi:P.info? e=some i)(hz:i.zero=some z)(hzs:z.cells.size=i.size)(hsz:0<i.size)
 {v:Value} {m:Nat} {xs:List Value} (hown:rowAt w e i.size v m xs) {x:Value} {q:Nat} {news:List Value} (hs:Src P i.size tx x q news w) (h63:m+q≤maxLen) (hb:(m+q)*i.bytes≤140737488355328):
 ∃v' w',(Builtin.append_ #[t,tx] ty #[v,x]).run P w=.ok v' w'∧rowAt w' e i.size v' (m+q) (xs++news)∧w.grownBy w' (bq v)∧(bq v'=bq v∨bq v'=some w.heap.size):=by
 have hnl:=hs.newsLen
 have hxl:=hown.1
 have grow:∀(base:Option Addr) (cap:Nat),v=.slice base m cap→cap<m+q→(Builtin.firstCells i.size m (.slice base m cap)).run P w.drew=.ok xs.toArray w.drew →
  ∃v' w',(Builtin.append_ #[t,tx] ty #[v,x]).run P w=.ok v' w'∧rowAt w' e i.size v' (m+q) (xs++news)∧w.grownBy w' (bq v)∧(bq v'=bq v∨bq v'=some w.heap.size):=fun base cap hv hg hold=>by
  subst hv
  have hge:=grownCap_ge w (m+q) cap e
  have hcm:grownCap w (m+q) cap e≤maxLen:=grownCap_le_maxLen w (m+q) cap e h63
  have hr:=run_append_grow_src (P:=P) w t tx ty e i z ht hi hz base m cap xs hold x q news hs hg (by simp only[maxLen] at h63;omega) (growslice_fits hg hb)
  have hlen:(xs++news).length=(m+q)*i.size:=by rw[tL,hxl,hnl,tM]
  refine⟨_,_,hr,⟨hlen,.inr ⟨w.heap.size,0,_,_,rfl,by omega,heap_alloc_new w.drew _,hge,hcm,?_,?_⟩⟩,⟨rfl,rfl,rfl,by simp,fun k hk _=>heap_alloc_old w.drew _ hk⟩,.inr ?_⟩
  ·simp only[Array.size_append,T6,size_zeroCells,hzs,hlen,←tM]
   rw[H8]
   refine Nat.le_of_eq ?_
   congr 1
   omega
  ·simp only[Array.toList_append,T4]
   rw[←hlen]
   exact T8
  ·simp only[bq]
   rw[aA (by omega)]
 rcases hown.2 with⟨hnil,rfl⟩ | ⟨g,off,cap,jD,rfl,hc0,hg,hmc,hcm,hsz',htake⟩
 ·have hxs:xs=[]:=uK (by rw[hxl,Nat.zero_mul])
  subst hxs
  obtain⟨base,rfl⟩:∃base,v=.slice base 0 0:=by
   rcases hnil with h | ⟨a,h⟩
   ·exact⟨none,h⟩
   ·exact⟨some a,h⟩
  by_cases hq:q=0
  ·subst hq
   have hn:news=[]:=uK (by simpa using hnl)
   subst hn
   exact⟨_,w,O7 (ty:=ty) ht hi base hs,by simpa using hown,World.grownBy.refl w _,.inl rfl⟩
  ·refine grow base 0 rfl (by omega) ?_
   cases base with
   | none=>exact run_firstCells_none w.drew i.size 0 0 0
   | some a=>exact run_firstCells_some w.drew i.size 0 a 0 0 [] (by simp) (fun j u h=>by simp at h)
 ·by_cases hroom:m+q≤cap
  ·have hmul:(m+q)*i.size≤cap*i.size:=EV _ hroom
   rw[tM] at hmul
   have hcl:jD.toList.length=jD.size:=mO
   have hr:=run_append_room_src (P:=P) w t tx ty e i ht hi g off m cap x q news hs hroom (fun j hj=>by
    simp only[World.cell?,hg]
    have:off+m*i.size+j<jD.size:=by omega
    simp[uV this]) (fun j hj=>by simp[World.frozen?,hg])
   refine⟨_,_,hr,⟨by rw[tL,hxl,hnl,tM],.inr ⟨g,off,cap,_,rfl,hc0,HJ g e (0,0) news (off+m*i.size) w jD hg (by omega),hroom,hcm,?_,?_⟩⟩,?_,.inl rfl⟩
   ·simp only[T6,tL,nM,MK,hcl]
    omega
   ·have hx:(jD.toList.drop off).take (m*i.size)=xs:=htake
    simp only[]
    rw[I7,ZM (by rw[nM,hcl];omega),OP,show off+m*i.size-off=m*i.size by omega,hx,←I7]
    have:(xs++news).length=(m+q)*i.size:=by rw[tL,hxl,hnl,tM]
    rw[←this,T8]
   ·have:=E4 g news (off+m*i.size) w
    have hb':bq (.slice (some ⟨g,off,none⟩) m cap)=some g:=by simp only[bq];rw[aA (by omega)]
    rw[hb']
    exact this
  ·exact grow _ cap rfl (by omega) (run_firstCells_some w.drew i.size m ⟨g,off,none⟩ m cap xs hxl (fun j u hj=>by have:=hown.cells rfl j u hj;simpa using this))
end
@[irreducible] def qE{α:Type}(l m:List α)(b:Nat):Option (List α):=if (l.length+m.length)≤maxLen∧(l.length+m.length)*b≤140737488355328 then some (l++m) else none
theorem LE{α:Type}{l m q:List α}{b:Nat}(h:qE l m b=some q):q=l++m∧l.length+m.length≤maxLen∧(l.length+m.length)*b≤140737488355328:=by
 unfold qE at h
 split at h
 ·rename_i hc;cases h;exact⟨rfl,hc⟩
 ·cases h
@[irreducible] def BP(s:ByteArray):List T:=s.data.toList.map fun b=>.v (.int .u8 b.toNat)
section
variable {R:Type} (P:Program)
def yI(st:St)(n:Nat)(c:C)(k:List T→Option R):Option R:=match c with
 | .t x=>ob (x.kf n) k
 | .row key=>match st.ae[key]? with
  | some (.row _ _ n' es)=>if n'=n then k es else none
  | _=>none
 | .cut key m lo len _=>match st.ae[key]? with
  | some (.row _ _ n' es)=>if n'=n∧m=n then k (oC es lo len) else none
  | _=>none
 | _=>none
def M7(st:St)(e:TypeId)(n:Nat)(c:C)(k:St→List T→Option R):Option R:=match c with
 | .t (.v (.slice none 0 0))=>k st []
 | .row key=>match st.ae[key]? with
  | some (.row false e' n' es)=>if e'=e∧n'=n then k { st with ae:=st.ae.set key .dead } es else none
  | _=>none
 | .cut key m lo len _=>match st.ae[key]? with
  | some (.row false e' n' es)=>if e'=e∧n'=n∧m=n then k { st with ae:=st.ae.set key .dead } (oC es lo len) else none
  | _=>none
 | _=>none
def A8(st:St)(dst:Option Nat)(t u:TypeId)(s x:D)(k:St→D→Option R):Option R:=
 match P.underlying t with
 | some (.slice e)=>match P.info? e with
  | some i=>match i.zero with
   | some z=>if z.cells.size=i.size∧(0<i.size∧i.size<1000000000) then
    zN s fun cs=>
     if u=t then zN x fun cx=>yI st i.size cx fun m=>M7 st e i.size cs fun st l=>ob (qE l m i.bytes) fun q=>
      qP st dst (.row false e i.size q) fun st key=>k st (.s (.c (.row key)))
     else match P.underlying u,z,i.size,i.bytes with
      | some .string,.int .u8 0,1,1=>RR x fun b=>M7 st e 1 cs fun st l=>ob (qE l (BP b) 1) fun q=>
       qP st dst (.row false e 1 q) fun st key=>k st (.s (.c (.row key)))
      | _,_,_,_=>none
    else none
   | none=>none
  | none=>none
 | _=>none
def MO(st:St)(dst:Option Nat)(t u:TypeId)(key i:Nat)(x:D)(k:St→D→Option R):Option R:=
 match P.underlying t with
 | some (.slice e)=>match P.info? e with
  | some inf=>match inf.zero with
   | some z=>if z.cells.size=inf.size∧(0<inf.size∧inf.size<1000000000)∧u=t then
    zN x fun cx=>yI st inf.size cx fun m=>match st.ae[key]? with
     | some (.rr none e1 e2 n l)=>if e2=e∧n=inf.size then ob (aX l i) fun old=>ob (qE old m inf.bytes) fun q=>
      qP st dst (.rr (some i) e1 e2 n (l.set i q)) fun st K=>k { st with ae:=st.ae.set key (.fwd K) } (.s (.c (.fg K i)))
      else none
     | _=>none
    else none
   | none=>none
  | none=>none
 | _=>none
def y0(st:St)(dst:Option Nat)(t u:TypeId)(s x:D)(k:St→D→Option R):Option R:=match s with
 | .s (.c (.fg key i))=>MO P st dst t u key i x k
 | _=>A8 P st dst t u s x k
end
section
variable {R:Type} {P:Program} {w0 w w':World} {F Xc:Nat→Prop} {ρ0:cq} {ρ:nP} {st:St} {a:Act} {r:R}
theorem SU{n:Nat}{c:C}{y:Value}{k:List T→Option R}(h:Rel w0 F Xc ρ0 ρ st a w)(hc:cm w (XB st.ae ρ Xc) ρ c y)(hk:yI st n c k=some r):
 ∃l,k l=some r∧dt n l∧∃ys,dp w (XB st.ae ρ Xc) (flat l) ys ∧
  ((∃q,y=.slice none 0 q∧l=[])∨∃ad q,y=.slice (some ad) l.length q∧l.length≤q∧∀(j:Nat) u,ys[j]?=some u→w.cell? (ad.add j)=some u):=by
 unfold yI at hk
 split at hk
 ·rename_i x
  obtain⟨l,hl,hk2⟩:=bO hk
  clear hk
  rcases hc with hc | ⟨hc,_⟩
  ·cases hc
  ·obtain⟨hnm,hl⟩:=T.fh hl
   unfold T.im at hl
   split at hl
   ·rw[aC hnm] at hl
    cases hl
    have:=Rd.cr hc
    subst this
    exact⟨[],hk2,.nil n,[],⟨rfl,fun i t y h1 _=>by simp[flat] at h1⟩,.inl ⟨0,rfl,rfl⟩⟩
   ·split at hl
    ·rename_i hkk
     cases hl
     subst hkk
     cases hc with
     | mp _ _ _ _ _ hbig=>omega
     | nil=>exact⟨[],hk2,.nil _,[],⟨rfl,fun i t y h1 _=>by simp[flat] at h1⟩,.inl ⟨0,rfl,rfl⟩⟩
     | sl _ _ ad q ys _ hq hm hu hy hcell hr=>
      exact⟨_,hk2,hu,ys,⟨hy,fun i t y h1 h2=>⟨hr i t y h1 h2,(hcell i y h2).2.2⟩⟩,.inr ⟨ad,q,rfl,hq,fun j u hj=>(hcell j u hj).1⟩⟩
    ·cases hl
   ·cases hl
 ·rename_i key
  split at hk
  ·rename_i fz e n' es hob
   split at hk
   ·rename_i hn
    subst hn
    rcases hc with hc | ⟨hc,_⟩
    ·cases hc
    ·obtain⟨hv,e1,e2⟩:=h.ae key _ hob
     simp only[ib] at hc
     rw[hc] at e1
     cases e1
     obtain⟨h0,hu,_,_⟩:=id e2
     rcases pG e2 with⟨rfl,rfl⟩ | ⟨a0,cap,rfl,h1,h2,xs,hr,hcell⟩
     ·exact⟨[],hk,.nil _,[],⟨rfl,fun i t y h1 _=>by simp[flat] at h1⟩,.inl ⟨0,rfl,rfl⟩⟩
     ·exact⟨es,hk,hu,xs,hr,.inr ⟨_,cap,rfl,h1,hcell⟩⟩
   ·cases hk
  ·cases hk
 ·rename_i key m lo len tg
  split at hk
  ·rename_i fz e n' es hob
   split at hk
   ·rename_i hn
    obtain⟨rfl,rfl⟩:=hn
    rcases hc with hc | ⟨⟨hv,q1,q2⟩,_⟩
    ·cases hc
    ·obtain⟨hv',e1,e2⟩:=h.ae key _ hob
     rw[q1] at e1
     cases e1
     obtain⟨_,hu,_,hh⟩:=GI e2 q2
     rcases hh with⟨rfl,h2⟩ | ⟨ad,q,rfl,h1,h2,xs,hr,hcell⟩
     ·exact⟨_,hk,hu,[],by rw[h2];exact⟨rfl,fun i t y h1 _=>by simp[flat] at h1⟩,.inl ⟨0,rfl,h2⟩⟩
     ·exact⟨_,hk,hu,xs,hr,.inr ⟨ad,q,rfl,h1,fun j u hj=>(hcell j u hj).1⟩⟩
   ·cases hk
  ·cases hk
 ·cases hk
theorem ek.row{e:TypeId}{n lo len L:Nat}{tg:Bool}{v y:Value}{xs:List Value}(hc:ek v n lo len tg y)(hr:rowAt w e n v L xs):rowAt w e n y len ((xs.drop (lo*n)).take (len*n)):=by
 obtain⟨ao,L',c,cc,ao',rfl,rfl,h1,h2,h3,h4,_⟩:=hc
 have hxl:=hr.1
 have hL:L=L':=by
  rcases hr.2 with⟨hn | ⟨a,hn⟩,h0⟩ | ⟨g,off,cap,jD,e1,_⟩
  ·cases hn;exact h0
  ·cases hn;exact h0
  ·cases e1;rfl
 subst hL
 have hmul:(lo+len)*n≤L*n:=EV _ h1
 rw[tM] at hmul
 refine⟨by rw[nM,MK,hxl];omega,?_⟩
 by_cases hcc:cc=0
 ·subst hcc
  have hz:len=0:=by omega
  subst hz
  refine .inl ⟨?_,rfl⟩
  cases ao' with
  | none=>exact .inl rfl
  | some a=>exact .inr ⟨a,rfl⟩
 ·rcases hr.2 with⟨hn,h0⟩ | ⟨g,off,cap,jD,e1,g1,g2,g3,g4,g5,g6⟩
  ·exfalso
   rcases hn with hn | ⟨a,hn⟩ <;> (cases hn;omega)
  ·cases e1
   have h5:=h4 (by omega)
   have hadd:(⟨g,off,none⟩:Addr).add (lo*n)=⟨g,off+lo*n,none⟩:=by unfold Addr.add;split <;> simp_all
   simp only[fA,hadd] at h5
   subst h5
   have hm2:(lo+cc)*n≤c*n:=EV _ h3
   rw[tM] at hm2
   refine .inr ⟨g,off+lo*n,cc,jD,rfl,by omega,g2,h2,by omega,by omega,?_⟩
   rw[←g6,OP,List.take_take,OO,OQ (by omega)]
theorem ek.bq{n lo len:Nat}{tg:Bool}{v y:Value}(hc:ek v n lo len tg y){b:Nat}(hb:Eng.bq y=some b):Eng.bq v=some b:=by
 obtain⟨ao,L',c,cc,ao',rfl,rfl,h1,h2,h3,h4,_⟩:=hc
 cases ao' with
 | none=>cases hb
 | some a'=>
  simp only[Eng.bq] at hb
  split at hb
  ·cases hb
  ·have h5:=h4 (by omega)
   cases ao with
   | none=>cases h5
   | some a=>
    simp only[fA,cG] at h5
    subst h5
    simp only[uN] at hb
    simp only[Eng.bq]
    rw[aA (by omega)]
    exact hb
theorem O8{e:TypeId}{n:Nat}{y v:Value}{key:Nat}{es:List T}(h:Rel w0 F Xc ρ0 ρ st a w)(hn:0<n∧n<1000000000)(hob:st.ae[key]?=some (.row false e n es))(hc:ρ key=some v)(hby:∀b,bq y=some b→bq v=some b):
 ∀(w':World) (d:Nat) (l':List T) (v':Value) (xs':List Value),(st.ae.set key .dead)[st.np+d]?=some .fresh→rowAt w' e n v' l'.length xs'→dt n l'→w.grownBy w' (bq y)→(bq v'=bq y∨bq v'=some w.heap.size) →
  dp w (XB st.ae ρ Xc) (flat l') xs' →
  ∃ρ',Rel w0 F Xc ρ0 ρ' { st with ae:=(st.ae.set key .dead).set (st.np+d) (.row false e n l') } a w'∧ρ' (st.np+d)=some v'∧gj ρ ρ':=by
 intro w' d l' v' xs' hf hown hu hg hv' hr
 have hklt:key<st.ae.length:=(dL.1 hob).1
 have hdk:st.np+d≠key:=fun e=>by
  rw[e,iJ hklt] at hf;cases hf
 have hf0:st.ae[st.np+d]?=some .fresh:=by rw[fK (fun e=>hdk e.symm)] at hf;exact hf
 have hnone:ρ (st.np+d)=none:=h.ae _ _ hf0
 have hdlt:st.np+d<(st.ae.set key O.dead).length:=(dL.1 hf).1
 have hs:cg (fun b=>bq y=some b) w w':=cg.grown hg (fun g hg=>hg)
 have hHas:∀b,bq y=some b→Has st.ae ρ key b:=fun b hb=>⟨_,v,hob,rfl,hc,.inl (hby b hb)⟩
 have hρ:gj ρ (ax ρ (st.np+d) v'):=fun j u hj=>by
  unfold ax
  split
  ·rename_i e;subst e;rw[hnone] at hj;cases hj
  ·exact hj
 have hnew:∀j b,(j=key∨j=st.np+d)→Has ((st.ae.set key .dead).set (st.np+d) (.row false e n l')) (ax ρ (st.np+d) v') j b→j=st.np+d∧bq v'=some b:=by
  intro j b hj hh
  obtain⟨o',u,q1,q2,q3,q4⟩:=hh
  rcases hj with rfl | rfl
  ·rw[fK hdk,iJ hklt] at q1
   cases q1;cases q2
  ·simp only[ax,eY,cG] at q3
   subst q3
   exact⟨rfl,q4.one hown.one⟩
 refine⟨ax ρ (st.np+d) v',h.change _ _ (fun j=>j=key∨j=st.np+d) hs (fun j hj=>⟨?_,by unfold ax;rw[aA (fun e=>hj (.inr e))]⟩) hρ (fun b hb=>⟨key,.inl rfl,hHas b hb⟩)
  (fun j b hj hh=>?_) (fun j j' b hj hj' hh hh'=>(hnew j b hj hh).1.trans (hnew j' b hj' hh').1.symm) (fun hX j o' hj ho'=>?_) (fun j hj=>by unfold ax;rw[aA (by omega)]),by simp[ax],hρ⟩
 ·rw[fK (fun e=>hj (.inr e.symm)),fK (fun e=>hj (.inl e.symm))]
 ·obtain⟨_,hb⟩:=hnew j b hj hh
  rcases hv' with hv' | hv'
  ·exact .inl ⟨key,.inl rfl,hHas b (hv'▸hb)⟩
  ·rw[hv'] at hb;cases hb;exact .inr (gB _)
 ·rcases hj with rfl | rfl
  ·rw[fK hdk,iJ hklt] at ho'
   cases ho';trivial
  ·rw[iJ hdlt] at ho'
   cases ho'
   exact⟨v',by simp[ax],hn,hu,⟨xs',hown,hr.step hs (fun b hb=>.inl ⟨key,hHas b hb⟩) hX⟩,fun hc=>by cases hc⟩
theorem Co{e:TypeId}{n:Nat}{c:C}{y:Value}{k:St→List T→Option R}(h:Rel w0 F Xc ρ0 ρ st a w)(hc:cm w (XB st.ae ρ Xc) ρ c y)(hn:0<n∧n<1000000000)(hk:M7 st e n c k=some r):
 ∃l st1,k st1 l=some r∧dt n l∧st1.np=st.np∧st1.env=st.env∧(∃xs,rowAt w e n y l.length xs∧dp w (XB st.ae ρ Xc) (flat l) xs) ∧
  ∀(w':World) (d:Nat) (l':List T) (v':Value) (xs':List Value),st1.ae[st.np+d]?=some .fresh→rowAt w' e n v' l'.length xs'→dt n l'→w.grownBy w' (bq y)→(bq v'=bq y∨bq v'=some w.heap.size) →
   dp w (XB st.ae ρ Xc) (flat l') xs' →
   ∃ρ',Rel w0 F Xc ρ0 ρ' { st1 with ae:=st1.ae.set (st.np+d) (.row false e n l') } a w'∧ρ' (st.np+d)=some v':=by
 unfold M7 at hk
 split at hk
 ·rcases hc with hc | ⟨hc,_⟩
  ·cases hc
  ·have:=Rd.cr hc
   subst this
   refine⟨[],st,hk,.nil n,rfl,rfl,⟨[],rowAt.nil w e n,⟨rfl,fun i t y h1 _=>by simp[flat] at h1⟩⟩,?_⟩
   intro w' d l' v' xs' hf hown hu hg hv hr
   have hs:cg (fun _=>False) w w':=cg.grown hg (fun g hg=>by simp[bq] at hg)
   have hnone:ρ (st.np+d)=none:=h.ae _ _ hf
   refine⟨_,h.new (hv:=v') hf hs (fun b hb=>?_) (fun X' hX=>?_) (HC _ _) (by simp),by simp[ax]⟩
   ·rcases hv with hv | hv
    ·rw[hv] at hb;simp[bq] at hb
    ·rw[hv] at hb;cases hb;exact gB _
   ·exact⟨hn,hu,⟨xs',hown,hr.step hs (fun _ hb=>False.elim hb) hX⟩,fun hc=>by cases hc⟩
 ·rename_i key
  split at hk
  ·rename_i e' n' es hob
   split at hk
   ·rename_i hcond
    obtain⟨rfl,rfl⟩:=hcond
    rcases hc with hc | ⟨hc,_⟩
    ·cases hc
    ·obtain⟨hv,e1,e2⟩:=h.ae key _ hob
     simp only[ib] at hc
     rw[hc] at e1
     cases e1
     obtain⟨h0,hu0,⟨xs,hown0,hr0⟩,_⟩:=e2
     refine⟨es,_,hk,hu0,rfl,rfl,⟨xs,hown0,hr0⟩,?_⟩
     intro w' d l' v' xs' h1 h2 h3 h4 h5 h6
     obtain⟨ρ',r1,r2,_⟩:=O8 h hn hob hc (fun b hb=>hb) w' d l' v' xs' h1 h2 h3 h4 h5 h6
     exact⟨ρ',r1,r2⟩
   ·cases hk
  ·cases hk
 ·rename_i key m lo len tg
  split at hk
  ·rename_i e' n' es hob
   split at hk
   ·rename_i hcond
    obtain⟨rfl,rfl,rfl⟩:=hcond
    rcases hc with hc | ⟨⟨v,q1,q2⟩,_⟩
    ·cases hc
    ·obtain⟨hv,e1,e2⟩:=h.ae key _ hob
     rw[q1] at e1
     cases e1
     obtain⟨hlen,huc,_,_⟩:=GI e2 q2
     obtain⟨h0,hu0,⟨xs,hown0,hr0⟩,_⟩:=e2
     refine⟨_,_,hk,huc,rfl,rfl,⟨_,by rw[hlen];exact q2.row hown0,?_⟩,?_⟩
     ·have hfl:flat (oC es lo len)=((flat es).drop (lo*m)).take (len*m):=by unfold oC;rw[(hu0.drop lo).de,hu0.ct]
      rw[hfl]
      have hxl:=hr0.1
      refine⟨by simp[hxl],fun i t z h1 h2=>?_⟩
      rw[pT] at h1 h2
      split at h1
      ·rename_i hlt
       rw[aC hlt] at h2
       rw[tO] at h1 h2
       exact hr0.2 _ t z h1 h2
      ·cases h1
     ·intro w' d l' v' xs' h1 h2 h3 h4 h5 h6
      obtain⟨ρ',r1,r2,_⟩:=O8 h hn hob q1 (fun b hb=>q2.bq hb) w' d l' v' xs' h1 h2 h3 h4 h5 h6
      exact⟨ρ',r1,r2⟩
   ·cases hk
  ·cases hk
 ·cases hk
theorem dp.append{X:Nat→Prop}{l m:List T}{ys zs:List Value}(h:dp w X l ys)(h':dp w X m zs):dp w X (l++m) (ys++zs):=by
 refine⟨by simp[h.1,h'.1],fun i c y h1 h2=>?_⟩
 rw[rR] at h1 h2
 have hl:=h.1
 by_cases hi:i<l.length
 ·rw[aC hi] at h1
  rw[aC (by omega)] at h2
  exact h.2 i c y h1 h2
 ·rw[aA hi] at h1
  rw[aA (by omega)] at h2
  rw[hl] at h2
  exact h'.2 _ c y h1 h2
theorem Z6(s:ByteArray):dt 1 (BP s):=by
 unfold BP
 intro t ht
 obtain⟨b,_,rfl⟩:=kZ.1 ht
 rfl
theorem IE(s:ByteArray):(BP s).length=s.size:=by unfold BP;rw[dM,mO];rfl
theorem W3{l:List T}(h:∀t∈l,t.cells=[t]):flat l=l:=by
 induction l with
 | nil=>rfl
 | cons t l ih=>rw[qW,h t (by simp),ih (fun t ht=>h t (by simp[ht]))];rfl
theorem Fh{X:Nat→Prop}(s:ByteArray):dp w X (flat (BP s)) (Lib.strCells s):=by
 rw[W3 (fun t ht=>by unfold BP at ht;obtain⟨b,_,rfl⟩:=kZ.1 ht;rfl)]
 refine⟨by rw[Lib.strCells_length,IE],fun i t y h1 h2=>?_⟩
 unfold BP at h1
 unfold Lib.strCells at h2
 rw[fF] at h1 h2
 cases hb:s.data.toList[i]? with
 | none=>simp[hb] at h1
 | some b=>simp only[hb,fA,cG] at h1 h2;subst h1;subst h2;exact⟨.v _,rfl⟩
theorem Z7{dst:Option Nat}{t u ty:TypeId}{s x:D}{vs vx:Value}{k:St→D→Option R}(h:Rel w0 F Xc ρ0 ρ st a w)(hs:bc w (XB st.ae ρ Xc) ρ s vs)(hx:bc w (XB st.ae ρ Xc) ρ x vx)
 (hk:A8 P st dst t u s x k=some r):
 ∃y w' ρ' st' d,(Builtin.append_ #[t,u] ty #[vs,vx]).run P w=.ok y w'∧Rel w0 F Xc ρ0 ρ' st' a w'∧bc w' (XB st'.ae ρ' Xc) ρ' d y∧k st' d=some r:=by
 unfold A8 at hk
 split at hk
 case h_2=>cases hk
 rename_i e ht
 split at hk
 case h_2=>cases hk
 rename_i i hi
 split at hk
 case h_2=>cases hk
 rename_i z hz
 split at hk
 case isFalse=>cases hk
 rename_i hcond
 obtain⟨hzs,hsz⟩:=hcond
 obtain⟨cs,rfl,hcs,hk1⟩:=uX hs hk
 clear hk
 split at hk1
 ·rename_i hu
  subst hu
  obtain⟨cx,rfl,hcx,hk0⟩:=uX hx hk1
  clear hk1
  obtain⟨m,hk2,hum,ys,hys,hy⟩:=SU h hcx hk0
  obtain⟨l,st1,hk3,hul,hnp,henv,⟨xs,hown,hrl⟩,hfin⟩:=Co h hcs hsz hk2
  obtain⟨q,hq,hk4⟩:=bO hk3
  obtain⟨rfl,hq1,hq2⟩:=LE hq
  obtain⟨d,_,hf,hk5⟩:=CW hk4
  rw[hnp] at hf hk5
  have hl1:=hys.1
  rw[hum.length] at hl1
  have hone:∀u∈ys,u.oneCell'=true:=fun u hu=>by
   obtain⟨i,hi,rfl⟩:=B7 hu
   have hlt:i<(flat m).length:=by rw[←hys.1];exact hi
   exact(hys.2 i _ _ (dH hlt) (dH hi)).2
  have hsrc:Src P i.size u vx m.length ys w:=by
   rcases hy with⟨q,rfl,rfl⟩ | ⟨ad,q,rfl,_,hc⟩
   ·have:ys=[]:=uK (by simpa using hl1)
    subst this
    exact .ofNil w ht q
   ·exact .ofSlice w ht ad m.length q ys hl1 hc hone
  obtain⟨v',w',r1,r2,r3,r4⟩:=AC (P:=P) (ty:=ty) ht hi hz hzs hsz.1 hown hsrc hq1 hq2
  obtain⟨ρ',hR,hρ'⟩:=hfin w' d (l++m) v' (xs++ys) hf (by rw[tL];exact r2) (hul.append hum) r3 r4 (by rw[xS];exact hrl.append hys)
  exact⟨v',w',ρ',_,.s (.c (.row (st.np+d))),r1,hR,.one (c:=.row (st.np+d)) hρ' (r2.one),by rw[hnp];exact hk5⟩
 ·rename_i hu
  split at hk1
  ·rename_i hus hi1 hi2
   obtain⟨b,rfl,hk0⟩:=BO hx hk1
   clear hk1
   obtain⟨l,st1,hk3,hul,hnp,henv,⟨xs,hown,hrl⟩,hfin⟩:=Co h hcs (by omega) hk0
   obtain⟨q,hq,hk4⟩:=bO hk3
   obtain⟨rfl,hq1,hq2⟩:=LE hq
   obtain⟨d,_,hf,hk5⟩:=CW hk4
   rw[hnp] at hf hk5
   rw[IE] at hq1 hq2
   have hsrc:Src P i.size u (.string b) b.size (Lib.strCells b) w:=by rw[hi1];exact .ofString w hus b
   obtain⟨v',w',r1,r2,r3,r4⟩:=AC (P:=P) (ty:=ty) ht hi hz hzs hsz.1 (by rw[hi1];exact hown) hsrc hq1 (by rw[hi2];omega)
   rw[hi1] at r2
   obtain⟨ρ',hR,hρ'⟩:=hfin w' d (l++BP b) v' (xs++Lib.strCells b) hf (by rw[tL,IE];exact r2) (hul.append (Z6 b)) r3 r4 (by rw[xS];exact hrl.append (Fh b))
   exact⟨v',w',ρ',_,.s (.c (.row (st.np+d))),r1,hR,.one (c:=.row (st.np+d)) hρ' (r2.one),by rw[hnp];exact hk5⟩
  ·cases hk1
theorem Je{dst:Option Nat}{t u ty:TypeId}{key i:Nat}{x:D}{vs vx:Value}{k:St→D→Option R}(h:Rel w0 F Xc ρ0 ρ st a w)(hs:bc w (XB st.ae ρ Xc) ρ (.s (.c (.fg key i))) vs)(hx:bc w (XB st.ae ρ Xc) ρ x vx)
 (hk:MO P st dst t u key i x k=some r):
 ∃y w' ρ' st' d,(Builtin.append_ #[t,u] ty #[vs,vx]).run P w=.ok y w'∧Rel w0 F Xc ρ0 ρ' st' a w'∧bc w' (XB st'.ae ρ' Xc) ρ' d y∧k st' d=some r:=by
 unfold MO at hk
 split at hk
 case h_2=>cases hk
 rename_i e ht
 split at hk
 case h_2=>cases hk
 rename_i inf hi
 split at hk
 case h_2=>cases hk
 rename_i z hz
 split at hk
 case isFalse=>cases hk
 rename_i hcond
 obtain⟨hzs,hsz,rfl⟩:=hcond
 obtain⟨cx,rfl,hcx,hk1⟩:=uX hx hk
 clear hk
 obtain⟨m,hk2,hum,ys,hys,hy⟩:=SU h hcx hk1
 clear hk1
 split at hk2
 case h_2=>cases hk2
 rename_i e1 e2 n l hob
 split at hk2
 case isFalse=>cases hk2
 rename_i hen
 obtain⟨rfl,rfl⟩:=hen
 obtain⟨old,hold,hk3⟩:=bO hk2
 obtain⟨q,hq,hk4⟩:=bO hk3
 obtain⟨rfl,hq1,hq2⟩:=LE hq
 obtain⟨d,_,hf,hk5⟩:=CW hk4
 have hold:=CB hold
 clear hk2 hk3 hk4 hq
 have hl1:=hys.1
 rw[hum.length] at hl1
 have hone:∀u∈ys,u.oneCell'=true:=fun u hu=>by
  obtain⟨i,hi,rfl⟩:=B7 hu
  have hlt:i<(flat m).length:=by rw[←hys.1];exact hi
  exact(hys.2 i _ _ (dH hlt) (dH hi)).2
 have hsrc:Src P inf.size u vx m.length ys w:=by
  rcases hy with⟨q,rfl,rfl⟩ | ⟨ad,q,rfl,_,hc⟩
  ·have:ys=[]:=uK (by simpa using hl1)
   subst this
   exact .ofNil w ht q
  ·exact .ofSlice w ht ad m.length q ys hl1 hc hone
 rcases hs with hs | ⟨⟨us,p1,p2⟩,_⟩
 ·cases hs
 obtain⟨hv,f1,h0,ho,hs',xs,rfl,g1,g2,g3,g4,g5⟩:=h.ae key _ hob
 rw[p1] at f1
 cases f1
 have hsi:hs'[i]?=some vs:=by simpa using p2
 have hilt:i<l.length:=(dL.1 hold).1
 obtain⟨hul,xo,hown,hrl⟩:=g4 i old vs hold hsi
 obtain⟨v',w',r1,r2,r3,r4⟩:=AC (P:=P) (ty:=ty) ht hi hz hzs hsz.1 hown hsrc hq1 hq2
 have hklt:key<st.ae.length:=(dL.1 hob).1
 have hdk:st.np+d≠key:=fun e=>by rw[e,hob] at hf;cases hf
 have hnone:ρ (st.np+d)=none:=h.ae _ _ hf
 have hdlt:st.np+d<st.ae.length:=(dL.1 hf).1
 have hstp:cg (fun b=>bq vs=some b) w w':=cg.grown r3 (fun g hg=>hg)
 have hHas:∀(j:Nat) y b,(ho::hs')[j]?=some y→bq y=some b→Has st.ae ρ key b:=fun j y b hj hb=>⟨_,_,hob,rfl,p1,.inr ⟨_,rfl,y,by simpa using mM hj,hb⟩⟩
 have hρ:gj ρ (ax ρ (st.np+d) (.tuple (ho::hs'.set i v').toArray)):=fun j u hj=>by
  unfold ax
  split
  ·rename_i e;subst e;rw[hnone] at hj;cases hj
  ·exact hj
 have hlt:∀(j:Nat) y b,(ho::hs')[j]?=some y→bq y=some b→b<w.heap.size:=fun j y b hj hb=>h.lt (hHas j y b hj hb).kn
 have hvi:(ho::hs')[i+1]?=some vs:=by simpa using hsi
 have hnewH:∀(j:Nat) y,(ho::hs'.set i v')[j]?=some y→(j=i+1∧y=v')∨(j≠i+1∧(ho::hs')[j]?=some y):=fun j y hj=>by
  cases j with
  | zero=>exact .inr ⟨by omega,hj⟩
  | succ j=>
   simp only[ON,qO] at hj ⊢
   by_cases e:i=j
   ·subst e
    rw[aC rfl] at hj
    split at hj
    ·cases hj;exact .inl ⟨rfl,rfl⟩
    ·cases hj
   ·rw[aA e] at hj
    exact .inr ⟨by omega,hj⟩
 have hobj:((st.ae.set (st.np+d) (.rr (some i) e1 e2 inf.size (l.set i (old++m)))).set key (.fwd (st.np+d)))[st.np+d]?=some (.rr (some i) e1 e2 inf.size (l.set i (old++m))):=by
  rw[fK (fun e=>hdk e.symm),iJ hdlt]
 have hobj2:((st.ae.set (st.np+d) (.rr (some i) e1 e2 inf.size (l.set i (old++m)))).set key (.fwd (st.np+d)))[key]?=some (.fwd (st.np+d)):=by
  rw[iJ (by rw[dP];exact hklt)]
 have hnew:∀j b,(j=key∨j=st.np+d)→Has ((st.ae.set (st.np+d) (.rr (some i) e1 e2 inf.size (l.set i (old++m)))).set key (.fwd (st.np+d))) (ax ρ (st.np+d) (.tuple (ho::hs'.set i v').toArray)) j b →
  j=st.np+d∧(Has st.ae ρ key b∨w.heap.size≤b):=by
  intro j b hj hh
  obtain⟨o',u',q1,q2,q3,q4⟩:=hh
  rcases hj with rfl | rfl
  ·rw[hobj2] at q1
   cases q1;cases q2
  ·simp only[ax,eY,cG] at q3
   subst q3
   refine⟨rfl,?_⟩
   rcases q4 with q4 | ⟨ws,hws,y,hy1,hy2⟩
   ·cases q4
   ·cases hws
    obtain⟨j,hj,rfl⟩:=B7 hy1
    have hj':(ho::hs'.set i v')[j]?=some _:=dH hj
    rcases hnewH j _ hj' with⟨_,e⟩ | ⟨_,e⟩
    ·rw[e] at hy2
     rcases r4 with r4 | r4
     ·exact .inl (hHas _ _ b hvi (r4▸hy2))
     ·rw[r4] at hy2;cases hy2;exact .inr (gB _)
    ·exact .inl (hHas _ _ b e hy2)
 have hoff:∀(j:Nat) y b,j≠i+1→(ho::hs')[j]?=some y→bq y=some b→¬bq vs=some b:=fun j y b hne hj hb hv=>hne (g5 j (i+1) y vs b hj hvi hb hv)
 refine⟨v',w',ax ρ (st.np+d) (.tuple (ho::hs'.set i v').toArray),_,.s (.c (.fg (st.np+d) i)),r1,?_,bc.one (c:=.fg (st.np+d) i) ⟨(ho::hs'.set i v').toArray,by simp[ax],by
  simp only[KY,ON,qO]
  rw[aC trivial,aC (by omega)]⟩ r2.one,hk5⟩
 refine h.change _ _ (fun j=>j=key∨j=st.np+d) hstp (fun j hj=>⟨?_,by unfold ax;rw[aA (fun e=>hj (.inr e))]⟩) hρ (fun b hb=>⟨key,.inl rfl,hHas _ _ b hvi hb⟩)
  (fun j b hj hh=>?_) (fun j j' b hj hj' hh hh'=>(hnew j b hj hh).1.trans (hnew j' b hj' hh').1.symm) (fun hX j o' hj ho'=>?_) (fun j hj=>by unfold ax;rw[aA (by omega)])
 ·show ((st.ae.set (st.np+d) _).set key _)[j]?=_
  rw[fK (fun e=>hj (.inl e.symm)),fK (fun e=>hj (.inr e.symm))]
 ·rcases(hnew j b hj hh).2 with hb | hb
  ·exact .inl ⟨key,.inl rfl,hb⟩
  ·exact .inr hb
 ·have hYX:∀b,bq vs=some b→XB st.ae ρ Xc b:=fun b hb=>.inl ⟨key,hHas _ _ b hvi hb⟩
  rcases hj with rfl | rfl
  ·rw[hobj2] at ho'
   cases ho'
   refine⟨.tuple (ho::hs').toArray,?_,(ho::hs').toArray,(ho::hs'.set i v').toArray,rfl,by simp[ax],by simp⟩
   unfold ax;rw[aA (fun e=>hdk e.symm)];exact p1
  ·rw[hobj] at ho'
   cases ho'
   refine⟨_,by simp only[ax,eY],h0,ho,hs'.set i v',xs,rfl,?_,by rw[dP,dP,g2],fun j y z q1 q2=>?_,fun j mm y q1 q2=>?_,fun j1 j2 y z b q1 q2 q3 q4=>?_⟩
   ·rw[dP]
    exact g1.step hstp (fun b hb=>hoff 0 ho b (by omega) rfl hb)
   ·rw[qO] at q2
    by_cases e:i=j
    ·subst e
     have hj2:∃z0,hs'[i]?=some z0:=⟨_,hsi⟩
     obtain⟨z0,hz0⟩:=hj2
     exact⟨(g3 i y z0 q1 hz0).1,fun hne=>(hne rfl).elim⟩
    ·rw[aA e] at q2
     obtain⟨a1,a2⟩:=g3 j y z q1 q2
     exact⟨a1,fun _=>a2 (by simp)⟩
   ·rw[qO] at q1 q2
    by_cases e:i=j
    ·subst e
     rw[aC rfl,aC hilt] at q1
     rw[aC rfl,aC (by omega)] at q2
     cases q1
     cases q2
     refine⟨hul.append hum,_,by rw[tL];exact r2,?_⟩
     rw[xS]
     exact(hrl.append hys).step hstp hYX hX
    ·rw[aA e] at q1 q2
     obtain⟨a1,zs,a2,a3⟩:=g4 j mm y q1 q2
     exact⟨a1,zs,a2.step hstp (fun b hb=>hoff (j+1) y b (by omega) (by simpa using q2) hb),a3.step hstp hYX hX⟩
   ·rcases hnewH j1 y q1 with⟨a1,a2⟩ | ⟨a1,a2⟩ <;> rcases hnewH j2 z q2 with⟨b1,b2⟩ | ⟨b1,b2⟩
    ·omega
    ·subst a2
     rcases r4 with r4 | r4
     ·exact(hoff j2 z b b1 b2 q4 (r4▸q3)).elim
     ·rw[r4] at q3
      cases q3
      have:=hlt j2 z _ b2 q4
      omega
    ·subst b2
     rcases r4 with r4 | r4
     ·exact(hoff j1 y b a1 a2 q3 (r4▸q4)).elim
     ·rw[r4] at q4
      cases q4
      have:=hlt j1 y _ a2 q3
      omega
    ·exact g5 j1 j2 y z b a2 b2 q3 q4
theorem Z8{dst:Option Nat}{t u ty:TypeId}{s x:D}{vs vx:Value}{k:St→D→Option R}(h:Rel w0 F Xc ρ0 ρ st a w)(hs:bc w (XB st.ae ρ Xc) ρ s vs)(hx:bc w (XB st.ae ρ Xc) ρ x vx)
 (hk:y0 P st dst t u s x k=some r):
 ∃y w' ρ' st' d,(Builtin.append_ #[t,u] ty #[vs,vx]).run P w=.ok y w'∧Rel w0 F Xc ρ0 ρ' st' a w'∧bc w' (XB st'.ae ρ' Xc) ρ' d y∧k st' d=some r:=by
 unfold y0 at hk
 split at hk
 ·exact Je h hs hx hk
 ·exact Z7 h hs hx hk
end
def T.ak:T→Option Int
 | .v (.int _ n)=>some n
 | _=>none
def T.mq:T→Option Int
 | .v (.slice none 0 0)=>some 0
 | .sl k l=>if k<1000000000 then some (aI l) else none
 | _=>none
@[irreducible] def Vc{α:Type}(l:List α)(lo hi:Int):Option (List α):=if 0≤hi∧hi≤l.length∧0≤lo∧lo≤hi then some ((l.take hi.toNat).drop lo.toNat) else none
@[irreducible] def vA(l c:Int)(b:Nat):Option (Nat×Nat):=if 0≤l∧l≤c∧(b:Int)*c≤281474976710656∧c≤maxLen then some (l.toNat,c.toNat) else none
@[irreducible] def EL{α:Type}(n:Nat)(x:α):List α:=List.replicate n x
def E5:Nat→Nat→List T→List T
 | 0,_,_=>[]
 | c+1,n,l=>Uw n (l.take n)::E5 c n (l.drop n)
section
variable {R:Type} (P:Program)
def qZ(d:D)(k:Int→Option R):Option R:=O3 d fun x=>ob x.ak k
def BQ(z:Value):Option (List C):=if z.cells.toList.all (fun v=>v.oneCell') then some (z.cells.toList.map fun v=>.t (.v v)) else none
def Vd(e:TypeId):Bool:=match P.underlying e with
 | some (.struct fs)=>match fs[0]? with
  | some f=>match P.underlying f.type with
   | some (.pointer e')=>e'==e
   | _=>false
  | none=>false
 | _=>false
def W4(e:TypeId)(cs:List C):List C:=match cs with
 | .t (.v (.pointer none))::l=>if Vd P e=true then .self e::l else cs
 | _=>cs
def uE(st:St)(dst:Option Nat)(e:TypeId)(k:St→D→Option R):Option R:=
 match P.info? e with
 | some i=>match i.zero with
  | some z=>match BQ z with
   | some cs=>qP st dst (.box (W4 P e cs)) fun st key=>k st (.s (.c (.box key 0)))
   | none=>none
  | none=>none
 | none=>none
def W5(st:St)(dst:Option Nat)(v:D)(k:St→D→Option R):Option R:=
 match E3 v with
 | some cs=>if UN cs=none then qP st dst (.box cs) fun st key=>k st (.s (.c (.box key 0))) else none
 | none=>none
def JJ:List Field→Option (List (Nat×Nat))
 | []=>some []
 | f::l=>match I2 P f.type,JJ l with
  | some n,some ps=>some ((f.offset,n)::ps)
  | _,_=>none
def IF(t:TypeId)(parts:List (Nat×D))(k:D→Option R):Option R:=
 match P.info? t with
 | some i=>match i.zero with
  | some z=>match BQ z,P.underlying t with
   | some cs,some (.struct fields)=>match JJ P fields.toList with
    | some ps=>match O4 (ps[·]?) cs parts with
     | some l=>k (.s (.agg l))
     | none=>none
    | none=>none
   | some cs,some (.array _ e)=>match I2 P e with
    | some n=>match O4 (fun i=>some (i*n,n)) cs parts with
     | some l=>k (.s (.agg l))
     | none=>none
    | none=>none
   | _,_=>none
  | none=>none
 | none=>none
def LF{R:Type}(P:Program)(t:TypeId)(x:D)(f:Nat)(k:D→Option R):Option R:=none
def uF(t:TypeId)(x:D)(f:Nat)(k:D→Option R):Option R:=
 match P.underlying t with
 | some (.struct fields)=>match fields[f]? with
  | some fd=>match I2 P fd.type with
   | some n=>if n=0 then none else zN x fun c=>match c.shift fd.offset with
    | some c'=>k (.s (.c c'))
    | none=>none
   | none=>none
  | none=>none
 | _=>none
def IG{R:Type}(i:Int)(k:Nat→Option R):Nat→Nat→Option R
 | 0,_=>none
 | n+1,m=>bif dJ i m then k m else IG i k n (m+1)
theorem MP{R:Type}{i:Int}{k:Nat→Option R}{r:R}:∀{n m0:Nat},IG i k n m0=some r→∃m,m0≤m∧m<m0+n∧i=(m:Int)∧k m=some r
 | 0,m0,h=>by cases h
 | n+1,m0,h=>by
  unfold IG at h
  cases he:dJ i m0 with
  | true=>
   rw[he] at h
   unfold dJ at he
   exact⟨m0,gB _,by omega,by simpa using he,h⟩
  | false=>
   rw[he] at h
   obtain⟨m,h1,h2,h3,h4⟩:=MP (n:=n) h
   exact⟨m,by omega,by omega,h3,h4⟩
theorem MQ{R:Type}{i:Int}{f:Nat→Option D}{k:D→Option R}:∀(n m:Nat),IG i (fun j=>(f j).bind k) n m=(IG i f n m).bind k
 | 0,m=>rfl
 | n+1,m=>by
  unfold IG
  cases dJ i m with
  | true=>rfl
  | false=>exact MQ n (m+1)
def kE(st:St)(t:TypeId)(x ix:D)(k:D→Option R):Option R:=
 match P.underlying t with
 | some (.slice e)=>match I2 P e with
  | some n=>zN x fun c=>qZ ix fun i=>match c with
   | .t x=>ob (x.kf n) fun l=>ob (dA l i) fun y=>k (.s (.c (.pe n y 0)))
   | .row key=>match st.ae[key]? with
    | some (.row _ _ n' es)=>if n'=n then ob (aZ (aI es) i) fun m=>k (.s (.c (.ic key n m 0))) else none
    | _=>none
   | .cut key m lo len _=>match st.ae[key]? with
    | some (.row _ _ n' _)=>if n'=n∧m=n then ob (aZ (US len) i) fun q=>k (.s (.c (.ic key n (Ix lo q) 0))) else none
    | _=>none
   | .rk key=>match A2 st.ae 64 key with
    | some K=>match st.ae[K]? with
     | some (.rr _ _ _ _ l)=>if n=1 then ob (aZ (aI l) i) fun m=>k (.s (.c (.ko K m))) else none
     | _=>none
    | none=>none
   | _=>none
  | none=>none
 | some (.array len e)=>match I2 P e with
  | some n=>zN x fun c=>qZ ix fun i=>IG i (fun m=>match c.shift (m*n) with
   | some c'=>k (.s (.c c'))
   | none=>none) len 0
  | none=>none
 | _=>none
def LG{R:Type}(P:Program)(t:TypeId)(x ix:D)(k:D→Option R):Option R:=none
def C0(d:Option D)(dflt:Int)(k:Int→Option R):Option R:=match d with
 | some d=>qZ d k
 | none=>k dflt
def Z9(st:St)(n:Nat)(c:C):Option (Int×(Nat×Nat→Bool→C)):=match c with
 | .t y=>(y.kf n).map fun es=>(aI es,fun p _=>.t (.sl n (oC es p.1 p.2)))
 | .row key=>match st.ae[key]? with
  | some (.row _ _ n' es)=>if n'=n then some (aI es,fun p tg=>.cut key n p.1 p.2 tg) else none
  | _=>none
 | .cut key m b len _=>if m=n then some (US len,fun p tg=>.cut key n (Ix b p.1) p.2 tg) else none
 | _=>none
def BR(st:St)(t:TypeId)(x:D)(lo hi mx:Option D)(k:D→Option R):Option R:=
 match P.underlying t with
 | some .string=>match mx with
  | none=>RR x fun s=>C0 hi (Oh s) fun h=>C0 lo 0 fun l=>ob (Vb s l h) fun s'=>k (dS s')
  | some _=>none
 | some (.slice e)=>match I2 P e with
  | some n=>zN x fun c=>match mx,c with
   | none,.t y=>ob (y.kf n) fun es=>C0 hi (aI es) fun h=>C0 lo 0 fun l=>ob (Vc es l h) fun es'=>k (.s (.c (.t (.sl n es'))))
   | none,c=>ob (Z9 st n c) fun q=>C0 hi q.1 fun h=>C0 lo 0 fun l=>ob (JH q.1 l h) fun p=>k (.s (.c (q.2 p false)))
   | some m,c=>match hi with
    | some h=>ob (Z9 st n c) fun q=>qZ m fun m=>qZ h fun h=>C0 lo 0 fun l=>ob (Sg q.1 l h m) fun p=>k (.s (.c (q.2 p true)))
    | none=>none
  | none=>none
 | _=>none
def GL{R:Type}(P:Program)(st:St)(t:TypeId)(x:D)(k:St→D→Option R):Option R:=none
def Sk(P:Program)(t:TypeId):Bool:=match P.underlying t with
 | some (.array _ _)=>true
 | _=>false
def AD(st:St)(t:TypeId)(x:D)(lo hi mx:Option D)(k:St→D→Option R):Option R:=
 if Sk P t=true then (if lo.isNone=true∧hi.isNone=true∧mx.isNone=true then GL P st t x k else none) else BR P st t x lo hi mx fun d=>k st d
def EM(st:St)(t:TypeId)(x:D)(k:D→Option R):Option R:=
 match P.underlying t with
 | some .string=>RR x fun s=>k (dI .i64 (Oh s))
 | some (.slice _)=>zN x fun c=>match c with
  | .t y=>ob y.mq fun n=>k (dI .i64 n)
  | .row key=>match st.ae[key]? with
   | some (.row _ _ _ es)=>k (dI .i64 (aI es))
   | _=>none
  | .cut _ _ _ len _=>k (dI .i64 (US len))
  | .rk key=>match A2 st.ae 64 key with
   | some K=>match st.ae[K]? with
    | some (.rr _ _ _ _ l)=>k (dI .i64 (aI l))
    | _=>none
   | none=>none
  | _=>none
 | some (.array n _)=>k (dI .i64 n)
 | some (.map _ _)=>zN x fun c=>match c with
  | .t (.sl n l)=>if 1000000000≤n then k (dI .i64 (aI l)) else none
  | .row key=>match st.ae[key]? with
   | some (.mp _ _ _ es)=>k (dI .i64 (aI es))
   | _=>none
  | _=>none
 | _=>none
def AE(x:D)(i:Nat)(k:D→Option R):Option R:=match x with
 | .eg l=>match l[i]? with
  | some s=>k (.s s)
  | none=>none
 | _=>none
def LH:List D→Option (List (Nat×Nat))
 | []=>some []
 | .s (.c (.box k j))::l=>(LH l).map ((k,j)::·)
 | _=>none
def wS(fn:Fn)(first captured:List D)(k:D→Option R):Option R:=match fn,first with
 | .func f,[]=>match LH captured with
  | some []=>k (.s (.c (.t (.v (.func (.func f) #[] #[])))))
  | some caps=>k (.s (.c (.fn f caps)))
  | none=>none
 | _,_=>none
def rV(st:St)(dst:Option Nat)(t:TypeId)(l c:D)(k:St→D→Option R):Option R:=
 match P.underlying t with
 | some (.slice e)=>match P.info? e with
  | some i=>match i.zero with
   | some z=>match BQ z with
    | some cs=>match GJ cs with
     | some ts=>if ts.length=i.size∧(0<i.size∧i.size<1000000000) then qZ l fun l=>qZ c fun c=>ob (vA l c i.bytes) fun p=>
      qP st dst (.row false e i.size (EL p.1 (Uw i.size ts))) fun st key=>k st (.s (.c (.row key)))
      else none
     | none=>none
    | none=>none
   | none=>none
  | none=>none
 | _=>none
def A9(st:St)(dst:Option Nat)(t:TypeId)(l c:D)(k:St→D→Option R):Option R:=
 match P.underlying t with
 | some (.slice e)=>match P.info? e,P.underlying e with
  | some i,some (.slice e2)=>match i.zero,I2 P e2 with
   | some (.slice none 0 0),some n=>if i.size=1∧(0<n∧n<1000000000) then qZ l fun l=>qZ c fun c=>ob (vA l c i.bytes) fun p=>
    qP st dst (.rr none e e2 n (EL p.1 [])) fun st key=>k st (.s (.c (.rk key)))
    else none
   | _,_=>none
  | _,_=>none
 | _=>none
def oD(st:St)(dst:Option Nat)(t:TypeId)(len:Nat)(parts:List (Nat×D))(k:St→D→Option R):Option R:=
 match P.underlying t with
 | some (.slice e)=>match P.info? e with
  | some i=>match i.zero with
   | some z=>match BQ z with
    | some cs=>if cs.length=i.size∧(0<i.size∧i.size<1000000000)∧0<len∧len*i.size≤2 ^ 24 then
     match O4 (fun q=>some (q*i.size,i.size)) ((List.range len).flatMap fun _=>cs) parts with
     | some l=>match RX st.ae l with
      | some q=>match P.cellTypes P.depth e with
       | some tys=>oR P (List.replicate len tys).flatten q.2 fun ts=>qP { st with ae:=q.1 } dst (.row false e i.size (E5 len i.size ts)) fun st key=>k st (.s (.c (.row key)))
       | none=>none
      | none=>none
     | none=>none
     else none
    | none=>none
   | none=>none
  | none=>none
 | _=>none
def kN(st:St)(dst:Option Nat)(t:TypeId)(len:Nat)(parts:List (Nat×D))(k:St→D→Option R):Option R:=
 if len=0∧parts.isEmpty=true then match P.underlying t with
  | some (.slice e)=>match I2 P e with
   | some n=>if 0<n∧n<1000000000 then qP st dst (.row false e n []) fun st key=>k st (.s (.c (.row key))) else none
   | none=>none
  | _=>none
 else oD P st dst t len parts k
end
section
variable {R:Type} {P:Program} {w0 w w':World} {F Xc X:Nat→Prop} {ρ0:cq} {ρ:nP} {st:St} {a:Act} {r:R}
theorem sL{d:D}{y:Value}{k:Int→Option R}(h:bc w X ρ d y)(hk:qZ d k=some r):∃kd n,y=.int kd n∧k n=some r:=by
 obtain⟨x,_,hx,_,hk1⟩:=UO h hk
 obtain⟨n,hn,hk2⟩:=bO hk1
 unfold T.ak at hn
 split at hn
 ·cases hn;exact⟨_,_,hx.cr,hk2⟩
 ·cases hn
theorem xM{e:TypeId}{i:TypeInfo}{z:Value}(hi:P.info? e=some i)(hz:i.zero=some z)(w:World):(zeroValue e).run P w=.ok z w:=by
 simp[zeroValue,typeInfo,hi,hz]
theorem CC{z:Value}{cs:List C}(h:BQ z=some cs):bw w X ρ cs z.cells.toList∧(∀v∈z.cells.toList,v.oneCell'=true):=by
 unfold BQ at h
 split at h
 ·rename_i hall
  cases h
  have h1:∀v∈z.cells.toList,v.oneCell'=true:=jF.1 hall
  refine⟨⟨by simp,fun i c y e1 e2=>?_⟩,h1⟩
  rw[fF,e2] at e1
  cases e1
  exact .inr ⟨.v y,h1 y (mM e2)⟩
 ·cases h
theorem O9{z:Value}{cs:List C}(h:BQ z=some cs){i:Nat}{c:C}(hc:cs[i]?=some c):∃y,c=.t (.v y)∧z.cells[i]?=some y:=by
 unfold BQ at h
 split at h
 ·cases h
  rw[fF] at hc
  cases hz:z.cells.toList[i]? with
  | none=>simp[hz] at hc
  | some u=>simp only[hz,fA,cG] at hc;exact⟨u,hc.symm,by simpa using hz⟩
 ·cases h
theorem Jf{g:Nat}{e:TypeId}{z:Value}{cs:List C}(hc:BQ z=some cs):bw w X ρ (W4 P e cs) z.cells.toList∧da (W4 P e cs) g z.cells e:=by
 obtain⟨hl,_⟩:=CC (w:=w) (X:=X) (ρ:=ρ) hc
 have hn:UN cs=none:=by
  cases ht:UN cs with
  | none=>rfl
  | some t=>obtain⟨y,h1,_⟩:=O9 hc (B9.1 ht);cases h1
 unfold W4
 split
 ·rename_i l
  split
  ·refine⟨⟨hl.1,fun i c y h1 h2=>?_⟩,fun t ht=>?_⟩
   ·cases i with
    | zero=>
     simp only[zY,cG] at h1
     subst h1
     rcases hl.2 0 _ y rfl h2 with h | ⟨_,h⟩
     ·cases h
     ·exact .inr ⟨trivial,h⟩
    | succ i=>exact hl.2 (i+1) c y (by simpa using h1) h2
   ·cases ht
    obtain⟨y,h1,h2⟩:=O9 hc (i:=0) rfl
    cases h1
    exact⟨rfl,_,h2,.inl rfl⟩
  ·exact⟨hl,.none hn⟩
 ·exact⟨hl,.none hn⟩
theorem SV{dst:Option Nat}{cs:List C}{ys:Array Value}{k:St→Nat→Option R}(e:TypeId)(h:Rel w0 F Xc ρ0 ρ st a w)(hl:bw w (XB st.ae ρ Xc) ρ cs ys.toList)(hhd:da cs w.heap.size ys e)(hk:qP st dst (.box cs) k=some r):
 ∃ρ' st' key,Rel w0 F Xc ρ0 ρ' st' a (w.alloc (.cells ys e))∧bc (w.alloc (.cells ys e)) (XB st'.ae ρ' Xc) ρ' (.s (.c (.box key 0))) (.pointer (some ⟨w.heap.size,0,none⟩))∧k st' key=some r:=by
 obtain⟨d,_,hf,hk1⟩:=CW hk
 obtain⟨ρ',hR,_,hρ⟩:=h.lp e hf hl hhd (HC _ _)
 exact⟨ρ',_,_,hR,.one (c:=.box (st.np+d) 0) ⟨_,hρ,_,rfl,rfl⟩ rfl,hk1⟩
theorem Fi{dst:Option Nat}{e:TypeId}{k:St→D→Option R}(h:Rel w0 F Xc ρ0 ρ st a w)(hk:uE P st dst e k=some r):
 ∃y w' ρ' st' d,(Instr.alloc e true (.tuple #[])).run P w=.ok y w'∧Rel w0 F Xc ρ0 ρ' st' a w'∧bc w' (XB st'.ae ρ' Xc) ρ' d y∧k st' d=some r:=by
 unfold uE at hk
 split at hk
 case h_2=>cases hk
 rename_i i hi
 split at hk
 case h_2=>cases hk
 rename_i z hz
 split at hk
 case h_2=>cases hk
 rename_i cs hcs
 obtain⟨hl2,hh2⟩:=Jf (P:=P) (w:=w) (X:=XB st.ae ρ Xc) (ρ:=ρ) (g:=w.heap.size) (e:=e) hcs
 obtain⟨ρ',st',key,hR,hd,hk1⟩:=SV (ys:=z.cells) e h hl2 hh2 hk
 refine⟨_,_,ρ',st',_,?_,hR,hd,hk1⟩
 simp[Instr.alloc,xM hi hz,newVar,newRow]
theorem On{dst:Option Nat}{e:TypeId}{v:D}{vv:Value}{k:St→D→Option R}(h:Rel w0 F Xc ρ0 ρ st a w)(hv:bc w (XB st.ae ρ Xc) ρ v vv)(hk:W5 st dst v k=some r):
 ∃y w' ρ' st' d,(Instr.box e vv).run P w=.ok y w'∧Rel w0 F Xc ρ0 ρ' st' a w'∧bc w' (XB st'.ae ρ' Xc) ρ' d y∧k st' d=some r:=by
 unfold W5 at hk
 split at hk
 case h_2=>cases hk
 rename_i cs hcs
 split at hk
 case isFalse=>cases hk
 rename_i htl
 obtain⟨ρ',st',key,hR,hd,hk1⟩:=SV (ys:=vv.cells) e h (CA hv hcs) (.none htl) hk
 refine⟨_,_,ρ',st',_,?_,hR,hd,hk1⟩
 simp[Instr.box,newVar,newRow]
theorem EA:∀(fs:List Field) (ps:List (Nat×Nat)),JJ P fs=some ps→(fs.mapM (fun f=>do pure (f.offset,←sizeOf f.type):Field→Sem (Nat×Nat))).run P w=.ok ps w
 | [],ps,h=>by simp only[JJ,cG] at h;subst h;simp
 | f::l,ps,h=>by
  simp only[JJ] at h
  split at h
  ·rename_i n qs hn hq
   cases h
   have ih:=EA l qs hq
   rw[ZG]
   simp only[Sem.run_bind,iL hn,Result.andThen_ok,Sem.run_pure,ih]
  ·cases h
theorem Fj{t:TypeId}{parts:List (Nat×D)}{vparts:Array (Nat×Value)}{k:D→Option R}(hlen:parts.length=vparts.toList.length)
 (hp:∀(i:Nat) p q,parts[i]?=some p→vparts.toList[i]?=some q→p.1=q.1∧bc w X ρ p.2 q.2) (hk:IF P t parts k=some r):
 ∃y d,(Instr.build t vparts).run P w=.ok y w∧bc w X ρ d y∧k d=some r:=by
 unfold IF at hk
 split at hk
 case h_2=>cases hk
 rename_i i hi
 split at hk
 case h_2=>cases hk
 rename_i z hz
 split at hk
 ·rename_i cs fields hcs hu
  split at hk
  case h_2=>cases hk
  rename_i ps hps
  split at hk
  case h_2=>cases hk
  rename_i l hl
  obtain⟨h1,_⟩:=CC (w:=w) (X:=X) (ρ:=ρ) hcs
  obtain⟨ys',e1,e2⟩:=JG _ parts vparts.toList cs z.cells l h1 hlen hp hl
  refine⟨.agg ys',.s (.agg l),?_,⟨ys',rfl,e2⟩,hk⟩
  have hm:=EA (P:=P) (w:=w) fields.toList ps hps
  unfold Instr.build
  simp only[Sem.run_bind,xM hi hz,run_underlying hu,Result.andThen_ok]
  rw[ZN]
  simp only[Sem.run_map,hm,Result.andThen_ok]
  have:(fun(x:Nat)=>ps.toArray[x]?)=(fun(x:Nat)=>ps[x]?):=by funext x;simp
  rw[this,e1]
  rfl
 ·rename_i cs ln e hcs hu
  split at hk
  case h_2=>cases hk
  rename_i n hn
  split at hk
  case h_2=>cases hk
  rename_i l hl
  obtain⟨h1,_⟩:=CC (w:=w) (X:=X) (ρ:=ρ) hcs
  obtain⟨ys',e1,e2⟩:=JG _ parts vparts.toList cs z.cells l h1 hlen hp hl
  refine⟨.agg ys',.s (.agg l),?_,⟨ys',rfl,e2⟩,hk⟩
  unfold Instr.build
  simp only[Sem.run_bind,xM hi hz,run_underlying hu,Result.andThen_ok,iL hn,e1]
  rfl
 ·cases hk
theorem Fk{t:TypeId}{x:D}{v:Value}{f:Nat}{k:D→Option R}(h:bc w X ρ x v)(hk:LF P t x f k=some r):
 ∃y d,(Instr.field t v f).run P w=.ok y w∧bc w X ρ d y∧k d=some r:=by
 unfold LF at hk
 cases hk
theorem RY{t:TypeId}{x:D}{v:Value}{f:Nat}{k:D→Option R}(h:bc w X ρ x v)(hk:uF P t x f k=some r):
 ∃y d,(Instr.fieldAt t v f).run P w=.ok y w∧bc w X ρ d y∧k d=some r:=by
 unfold uF at hk
 split at hk
 case h_2=>cases hk
 rename_i fields hu
 split at hk
 case h_2=>cases hk
 rename_i fd hf
 split at hk
 case h_2=>cases hk
 rename_i n hn
 split at hk
 case isTrue=>cases hk
 rename_i hn0
 obtain⟨c,rfl,hc,hk1⟩:=uX h hk
 clear hk
 split at hk1
 case h_2=>cases hk1
 rename_i c' hc'
 obtain⟨ad,rfl,hr⟩:=WW hc hc'
 refine⟨_,_,?_,.one hr rfl,hk1⟩
 unfold Instr.fieldAt
 simp only[Sem.run_bind,run_underlying hu,Result.andThen_ok,hf,Instr.sureAddr,Sem.run_pure,fieldPlace,iL hn,aA hn0]
theorem RZ{t:TypeId}{x ix:D}{v vi:Value}{k:D→Option R}(hR:Rel w0 F Xc ρ0 ρ st a w)(h:bc w (XB st.ae ρ Xc) ρ x v)(hi:bc w (XB st.ae ρ Xc) ρ ix vi)(hk:kE P st t x ix k=some r):
 ∃y d,(Instr.indexAt t v vi).run P w=.ok y w∧bc w (XB st.ae ρ Xc) ρ d y∧k d=some r:=by
 unfold kE at hk
 split at hk
 ·rename_i e hu
  split at hk
  case h_2=>cases hk
  rename_i n hn
  obtain⟨c,rfl,hc,hk1⟩:=uX h hk
  obtain⟨kd,i,rfl,hk2⟩:=sL hi hk1
  clear hk hk1
  split at hk2
  ·rename_i y
   obtain⟨l,hl,hk3⟩:=bO hk2
   obtain⟨z,hz,hk4⟩:=bO hk3
   obtain⟨h0,hz⟩:=Fe hz
   rcases hc with hc | ⟨hc,_⟩
   ·cases hc
   ·obtain⟨hnm,hl⟩:=T.fh hl
    unfold T.im at hl
    split at hl
    ·rw[aC hnm] at hl;cases hl;simp at hz
    ·split at hl
     ·rename_i hkk
      cases hl
      subst hkk
      have hc0:Rd w (XB st.ae ρ Xc) (.sl _ l) v:=hc
      cases hc with
      | mp _ _ _ _ _ hbig=>omega
      | nil=>simp at hz
      | sl _ _ ad q ys _ hq hm hu' hy hcell hr=>
       obtain⟨_,hp⟩:=hc0.elem hz
       have hlt:i.toNat<l.length:=(dL.1 hz).1
       refine⟨.pointer (some (ad.add (i.toNat*_))),_,?_,.one (c:=.pe _ z 0) ⟨_,rfl,hp⟩ rfl,hk4⟩
       unfold Instr.indexAt
       simp only[asIntOf,Sem.run_bind,Sem.run_pure,run_underlying hu,Result.andThen_ok]
       rw[Sem.run_ite,aC (by omega)]
       simp only[Sem.run_bind,iL hn,Result.andThen_ok,Sem.run_pure]
     ·cases hl
    ·cases hl
  ·rename_i key
   split at hk2
   case h_2=>cases hk2
   rename_i fz e' n' es hob
   split at hk2
   case isFalse=>cases hk2
   rename_i hnn
   subst hnn
   obtain⟨m,hm,hk3⟩:=bO hk2
   obtain⟨m0,m1,m2,m3⟩:=LB hm
   unfold aI at m1
   rcases hc with hc | ⟨hc,_⟩
   ·cases hc
   ·obtain⟨hv,e1,e2⟩:=hR.ae key _ hob
    simp only[ib] at hc
    have hcc:=hc
    rw[hc] at e1
    cases e1
    rcases pG e2 with⟨rfl,rfl⟩ | ⟨a0,cap,rfl,h1,h2,xs,hr,hcell⟩
    ·simp at m1;omega
    ·refine⟨.pointer (some (a0.add (i.toNat*n'))),_,?_,.one (c:=.ic key n' m 0) ⟨_,hcc,_,rfl,by rw[m3,rH]⟩ rfl,hk3⟩
     unfold Instr.indexAt
     simp only[asIntOf,Sem.run_bind,Sem.run_pure,run_underlying hu,Result.andThen_ok]
     rw[Sem.run_ite,aC (by omega)]
     simp only[Sem.run_bind,iL hn,Result.andThen_ok,Sem.run_pure]
  ·rename_i key m lo len tg
   split at hk2
   case h_2=>cases hk2
   rename_i fz e' n' es hob
   split at hk2
   case isFalse=>cases hk2
   rename_i hnn
   obtain⟨rfl,rfl⟩:=hnn
   obtain⟨q,hq,hk3⟩:=bO hk2
   obtain⟨m0,m1,m2,m3⟩:=LB hq
   unfold US at m1
   unfold Ix at hk3
   rcases hc with hc | ⟨⟨hv,q1,q2⟩,_⟩
   ·cases hc
   ·obtain⟨ao,L,c,cc,ao',rfl,rfl,g1,g2,g3,g4,_⟩:=q2
    have g5:=g4 (by omega)
    cases ao with
    | none=>
     exfalso
     obtain⟨hv',e1,e2⟩:=hR.ae key _ hob
     rw[q1] at e1
     cases e1
     rcases pG e2 with⟨e3,_⟩ | ⟨a0,cap,e3,_⟩
     ·cases e3;omega
     ·cases e3
    | some a0=>
     subst g5
     refine⟨.pointer (some ((a0.add (lo*m)).add (i.toNat*m))),_,?_,.one (c:=.ic key m (lo+q) 0) ⟨_,q1,_,rfl,by rw[sK,m3,rH,tM]⟩ rfl,hk3⟩
     unfold Instr.indexAt
     simp only[fA,asIntOf,Sem.run_bind,Sem.run_pure,run_underlying hu,Result.andThen_ok]
     rw[Sem.run_ite,aC (by omega)]
     simp only[Sem.run_bind,iL hn,Result.andThen_ok,Sem.run_pure]
  ·rename_i key
   split at hk2
   case h_2=>cases hk2
   rename_i K hK
   split at hk2
   case h_2=>cases hk2
   rename_i l0 hob
   split at hk2
   case isFalse=>cases hk2
   rename_i hn1
   obtain⟨m,hm,hk3⟩:=bO hk2
   obtain⟨m0,m1,m2,m3⟩:=LB hm
   unfold aI at m1
   rcases hc with hc | ⟨⟨vs,q1,q2⟩,_⟩
   ·cases hc
   ·obtain⟨hole,e',e2,n',l,vs',f1,f2,f3,f4⟩:=CV hR hK q1
    rw[hob] at f1
    cases f1
    subst hn1
    rcases f4.head (f3.trans q2) with⟨rfl,rfl⟩ | ⟨a0,cap,rfl⟩
    ·simp at m1;omega
    ·refine⟨.pointer (some (a0.add (i.toNat*1))),_,?_,.one (c:=.ko K m) ⟨vs',_,f2,f3.trans q2,a0,rfl,by rw[m3,HF]⟩ rfl,hk3⟩
     unfold Instr.indexAt
     simp only[asIntOf,Sem.run_bind,Sem.run_pure,run_underlying hu,Result.andThen_ok]
     rw[Sem.run_ite,aC (by omega)]
     simp only[Sem.run_bind,iL hn,Result.andThen_ok,Sem.run_pure]
  ·cases hk2
 ·rename_i ln e hu
  split at hk
  case h_2=>cases hk
  rename_i n hn
  obtain⟨c,rfl,hc,hk1⟩:=uX h hk
  obtain⟨kd,i,rfl,hk2⟩:=sL hi hk1
  obtain⟨m,_,hm,hmi,hk3⟩:=MP hk2
  clear hk hk1 hk2
  have m0:0≤i:=by omega
  have m1:i<ln:=by omega
  have m3:i.toNat=m:=by omega
  split at hk3
  case h_2=>cases hk3
  rename_i c' hc'
  obtain⟨ad,rfl,hr⟩:=WW hc hc'
  refine⟨_,_,?_,.one hr rfl,hk3⟩
  unfold Instr.indexAt
  simp only[asIntOf,Sem.run_bind,Sem.run_pure,run_underlying hu,Result.andThen_ok,Instr.sureAddr]
  rw[Sem.run_ite,aC (by omega),m3]
  simp only[Sem.run_bind,iL hn,Result.andThen_ok,Sem.run_pure]
 ·cases hk
theorem Fl{t:TypeId}{x ix:D}{v vi:Value}{k:D→Option R}(h:bc w X ρ x v)(hi:bc w X ρ ix vi)(hk:LG P t x ix k=some r):
 ∃y d,(Instr.index t v vi).run P w=.ok y w∧bc w X ρ d y∧k d=some r:=by
 unfold LG at hk
 cases hk
theorem W6{x:D}{v:Value}{i:Nat}{k:D→Option R}(h:bc w X ρ x v)(hk:AE x i k=some r):
 ∃y d,(Instr.extract v i).run P w=.ok y w∧bc w X ρ d y∧k d=some r:=by
 unfold AE at hk
 split at hk
 ·rename_i l
  split at hk
  ·rename_i s hs
   obtain⟨vs,rfl,hl⟩:=h
   have hlt:i<l.length:=(dL.1 hs).1
   have hv:vs.toList[i]?=some (vs.toList[i]'(by rw[hl.1];exact hlt)):=dH _
   have hv':vs[i]?=some (vs.toList[i]'(by rw[hl.1];exact hlt)):=by rw[←hv,MH]
   refine⟨_,.s s,?_,hl.2 i s _ hs hv,hk⟩
   simp only[Instr.extract,hv',Sem.run_pure]
  ·cases hk
 ·cases hk
end
def MT(P:Program)(kt:TypeId):Option Nat:=match P.underlying kt with
 | some (.int .i64)=>some 0
 | some .string=>some 1
 | some (.array n e)=>match P.underlying e,I2 P e,IB P e with
  | some (.int .i64),some 1,some false=>some (n+2)
  | _,_,_=>none
 | _=>none
def PG:Value→Value→Bool
 | .int .i64 a,.int .i64 b=>a==b
 | .string a,.string b=>a==b
 | _,_=>false
def Cp:List T→List T→Bool
 | [],[]=>true
 | .v a::l,.v b::m=>PG a b&&Cp l m
 | _,_=>false
def A3:T→T→Bool
 | .v a,.v b=>PG a b
 | .agg l,.agg m=>Cp l m
 | _,_=>false
def C4:T→T
 | .agg (k::_)=>k
 | t=>t
def Sp:T→T
 | .agg [_,v]=>v
 | t=>t
def jH(k:T)(l:List T):Option Nat:=l.findIdx? fun t=>A3 k (C4 t)
theorem Ae:∀{l:List T} {vs:List Value},JD l=some vs→∃xs:List Int,l=xs.map (fun a=>T.v (.int .i64 a))∧vs=xs.map (Value.int .i64):=by
 intro l
 induction l with
 | nil=>intro vs h;simp only[JD,cG] at h;subst h;exact⟨[],rfl,rfl⟩
 | cons t l ih=>
  intro vs h
  unfold JD at h
  split at h
  ·rename_i hh;cases hh
  ·rename_i a l' hh
   cases hh
   cases hs:JD l with
   | none=>simp[hs] at h
   | some q=>
    simp only[hs,fA,cG] at h
    subst h
    obtain⟨xs,rfl,rfl⟩:=ih hs
    exact⟨a::xs,rfl,rfl⟩
  ·cases h
theorem jI{c:Nat}{k:T}{v:Value}(h:yZ c k=some v):(c=0∧∃a,k=.v (.int .i64 a)∧v=.int .i64 a)∨(c=1∧∃s,k=.v (.string s)∧v=.string s) ∨
 ∃m,∃xs:List Int,c=m+2∧xs.length=m∧k=.agg (xs.map fun a=>T.v (.int .i64 a))∧v=.agg (xs.map (Value.int .i64)).toArray:=by
 unfold yZ at h
 split at h
 ·cases h;exact .inl ⟨rfl,_,rfl,rfl⟩
 ·cases h;exact .inr (.inl ⟨rfl,_,rfl,rfl⟩)
 ·rename_i m l
  split at h
  ·rename_i hl
   cases hs:JD l with
   | none=>simp[hs] at h
   | some q=>
    simp only[hs,fA,cG] at h
    subst h
    obtain⟨xs,rfl,rfl⟩:=Ae hs
    exact .inr (.inr ⟨m,xs,rfl,by simpa using hl,rfl,rfl⟩)
  ·cases h
 ·cases h
theorem IM:∀xs ys:List Int,Cp (xs.map fun a=>T.v (.int .i64 a)) (ys.map fun a=>T.v (.int .i64 a))=decide (xs=ys)
 | [],[]=>rfl
 | [],_::_=>rfl
 | _::_,[]=>rfl
 | x::xs,y::ys=>by
  simp only[wO,Cp,PG,IM xs ys]
  by_cases h:x=y
  ·subst h;simp
  ·simp[h]
theorem XG{c:Nat}{k k':T}{v v':Value}(h:yZ c k=some v)(h':yZ c k'=some v'):A3 k k'=true↔v=v':=by
 rcases jI h with⟨rfl,a,rfl,rfl⟩ | ⟨rfl,s,rfl,rfl⟩ | ⟨m,xs,rfl,hl,rfl,rfl⟩
 ·rcases jI h' with⟨_,b,rfl,rfl⟩ | ⟨hc,_⟩ | ⟨m,ys,hc,_⟩
  ·simp[A3,PG]
  ·omega
  ·omega
 ·rcases jI h' with⟨hc,_⟩ | ⟨_,b,rfl,rfl⟩ | ⟨m,ys,hc,_⟩
  ·omega
  ·simp[A3,PG,MapKept.bytes_beq]
  ·omega
 ·rcases jI h' with⟨hc,_⟩ | ⟨hc,_⟩ | ⟨m',ys,hc,hl',rfl,rfl⟩
  ·omega
  ·omega
  ·simp only[A3,IM,bE]
   constructor
   ·intro e;rw[e]
   ·intro e
    have e1:xs.map (Value.int .i64)=ys.map (Value.int .i64):=by
     have:=fG (fun v=>match v with | Value.agg cs=>cs.toList | _=>[]) e
     simpa using this
    have inj:∀xs ys:List Int,xs.map (Value.int .i64)=ys.map (Value.int .i64)→xs=ys:=by
     intro xs
     induction xs with
     | nil=>intro ys h;cases ys with
      | nil=>rfl
      | cons y ys=>cases h
     | cons x xs ih=>intro ys h;cases ys with
      | nil=>cases h
      | cons y ys=>
       simp only[wO,List.cons.injEq,Value.int.injEq,OI] at h
       rw[h.1,ih ys h.2]
    exact inj xs ys e1
section
variable {P:Program} {w:World} {X:Nat→Prop} {ρ:nP}
theorem LM{e:TypeId}{cs:Array Value}{i:Nat}{v:Value}(hag:IB P e=some false)(hv:cs[i]?=some v)(w:World):(part e cs i).run P w=.ok v w:=by
 unfold part
 simp only[Sem.run_bind,LA hag,Result.andThen_ok,nL,iD,hv]
 rfl
theorem PH{xs:List Int}{i:Nat}(h:i<xs.length):((xs.map (Value.int .i64)).toArray)[i]?=some (.int .i64 xs[i]):=by simp[h]
theorem PI{kt e:TypeId}{n:Nat}(hu:P.underlying kt=some (.array n e))(he:P.underlying e=some (.int .i64))(hsz:I2 P e=some 1)(hag:IB P e=some false){xs:List Int}(hl:xs.length=n)(em:Bool)(d:Nat)(w:World):
 (Instr.checkKey em (d+2) kt (.agg (xs.map (Value.int .i64)).toArray)).run P w=.ok () w:=by
 rw[Instr.checkKey]
 simp only[Sem.run_bind,run_underlying hu,Result.andThen_ok]
 simp only[Std.Legacy.Range.forIn_eq_forIn_range',Std.Legacy.Range.size,Nat.sub_zero,Nat.add_one_sub_one,Nat.div_one]
 have each:∀j∈List.range' 0 n,j<xs.length:=fun j hj=>by
  rw[List.mem_range'] at hj
  obtain⟨i,hi,rfl⟩:=hj
  omega
 generalize List.range' 0 n=is at each
 induction is with
 | nil=>simp
 | cons j is ih=>
  have hj:=each j (by simp)
  have p1:=LM hag (PH hj) w
  have p2:(Instr.checkKey em (d+1) e (.int .i64 xs[j])).run P w=.ok () w:=MapKept.run_checkKey he (k:=.int .i64 xs[j]) rfl em d
  simp only[List.forIn_cons,Sem.run_bind,iL hsz,Result.andThen_ok,HF,p1,p2,Sem.run_pure]
  exact ih fun y hy=>each y (by simp[hy])
theorem Ft{kt:TypeId}{c:Nat}{k:T}{v:Value}(hk:MT P kt=some c)(hv:yZ c k=some v)(em:Bool)(w:World):(Instr.checkKey em 10000 kt v).run P w=.ok () w:=by
 unfold MT at hk
 split at hk
 ·rename_i hu
  cases hk
  rcases jI hv with⟨_,a,rfl,rfl⟩ | ⟨hc,_⟩ | ⟨m,xs,hc,_⟩
  ·exact MapKept.run_checkKey hu (k:=.int .i64 a) rfl em 9999
  ·cases hc
  ·cases hc
 ·rename_i hu
  cases hk
  rcases jI hv with⟨hc,_⟩ | ⟨_,s,rfl,rfl⟩ | ⟨m,xs,hc,_⟩
  ·cases hc
  ·exact MapKept.run_checkKey hu (k:=.string s) trivial em 9999
  ·omega
 ·rename_i n e hu
  split at hk
  ·rename_i he hsz hag
   cases hk
   rcases jI hv with⟨hc,_⟩ | ⟨hc,_⟩ | ⟨m,xs,hc,hl,rfl,rfl⟩
   ·omega
   ·omega
   ·exact PI hu he hsz hag (by omega) em 9998 w
  ·cases hk
 ·cases hk
theorem JM{e:TypeId}(he:P.underlying e=some (.int .i64))(hag:IB P e=some false){xs ys:List Int}(hl:xs.length=ys.length)(d:Nat)(w:World):∀(is:List Nat),(∀j∈is,j<xs.length) →
 ∃r,(Op.eqItems (d+1) e 1 (xs.map (Value.int .i64)).toArray (ys.map (Value.int .i64)).toArray is).run P w=.ok r w∧(r=true↔∀j∈is,xs[j]?=ys[j]?)
 | [],_=>⟨true,by simp[Op.eqItems],by simp⟩
 | i::is,hi=>by
  have h1:=hi i (by simp)
  have p1:=LM hag (PH h1) w
  have p2:=LM hag (PH (xs:=ys) (i:=i) (by omega)) w
  obtain⟨r,hr,hiff⟩:=JM he hag hl d w is (fun j hj=>hi j (by simp[hj]))
  have p3:=run_equalIn_int w d e .i64 .i64 xs[i] (ys[i]'(by omega)) he
  simp only[Op.eqItems,Sem.run_bind,HF,p1,p2,Result.andThen_ok,p3]
  have hx:xs[i]?=some xs[i]:=dH h1
  have hy:ys[i]?=some (ys[i]'(by omega)):=dH (by omega)
  by_cases hb:xs[i]=ys[i]'(by omega)
  ·refine⟨r,by simpa[hb] using hr,?_⟩
   rw[hiff]
   constructor
   ·intro h j hj
    rcases cJ.1 hj with rfl | hj
    ·rw[hx,hy,hb]
    ·exact h j hj
   ·intro h j hj;exact h j (by simp[hj])
  ·refine⟨false,by simp[hb],?_⟩
   constructor
   ·intro h;cases h
   ·intro h
    have:=h i (by simp)
    rw[hx,hy] at this
    exact(hb (OR this)).elim
theorem Fu{kt e:TypeId}{n:Nat}(hu:P.underlying kt=some (.array n e))(he:P.underlying e=some (.int .i64))(hsz:I2 P e=some 1)(hag:IB P e=some false){k k':T}{v v':Value}(h:yZ (n+2) k=some v)(h':yZ (n+2) k'=some v')(w:World):
 (Op.equal kt v v').run P w=.ok (A3 k k') w:=by
 have hb:=XG h h'
 rcases jI h with⟨hc,_⟩ | ⟨hc,_⟩ | ⟨m,xs,hc,hl,rfl,rfl⟩
 ·omega
 ·omega
 rcases jI h' with⟨hc',_⟩ | ⟨hc',_⟩ | ⟨m',ys,hc',hl',rfl,rfl⟩
 ·omega
 ·omega
 obtain⟨i,hi,hsi⟩:∃i,P.info? e=some i∧i.size=1:=by
  unfold I2 at hsz
  cases hi:P.info? e with
  | none=>simp[hi] at hsz
  | some i=>exact⟨i,rfl,by simpa[hi] using hsz⟩
 have hcell:P.cellsOf e=1:=by simp[Program.cellsOf,hi,hsi]
 obtain⟨r,hr,hiff⟩:=JM he hag (xs:=xs) (ys:=ys) (by omega) 9998 w (List.range n) (fun j hj=>by rw[uM] at hj;omega)
 have hrun:(Op.equal kt (.agg (xs.map (Value.int .i64)).toArray) (.agg (ys.map (Value.int .i64)).toArray)).run P w=.ok r w:=by
  show (Op.equalIn 10000 kt _ _).run P w=_
  rw[run_equalIn_array w 9999 _ _ hu hi,hcell]
  exact hr
 rw[hrun]
 congr 1
 have:r=true↔xs=ys:=by
  rw[hiff]
  constructor
  ·intro h
   apply EU
   intro j
   rcases OM j n with hj | hj
   ·exact h j (uM.2 hj)
   ·rw[tJ (by omega),tJ (by omega)]
  ·intro e j _;rw[e]
 have h2:A3 (.agg (xs.map fun a=>T.v (.int .i64 a))) (.agg (ys.map fun a=>T.v (.int .i64 a)))=decide (xs=ys):=by simp only[A3,IM]
 rw[h2]
 cases r with
 | true=>exact(aR (this.1 rfl)).symm
 | false=>exact(aW fun hh=>by have:=this.2 hh;cases this).symm
def fj(c:Nat):List T→List MapEntry→Prop
 | [],[]=>True
 | t::l,e::es=>(∃k v,t=.agg [k,v]∧yZ c k=some e.key)∧fj c l es
 | _,_=>False
theorem fj.of:∀{c:Nat} {l:List T} {es:List MapEntry},es.length=l.length→(∀(i:Nat) t e,l[i]?=some t→es[i]?=some e→∃k v,t=.agg [k,v]∧yZ c k=some e.key∧WS v e.val)→fj c l es
 | _,[],[],_,_=>trivial
 | _,[],_::_,h,_=>by simp at h
 | _,_::_,[],h,_=>by simp at h
 | c,t::l,e::es,h,hs=>by
  obtain⟨k,v,h1,h2,_⟩:=hs 0 t e rfl rfl
  exact⟨⟨k,v,h1,h2⟩,fj.of (by simpa using h) fun i t e a b=>hs (i+1) t e (by simpa using a) (by simpa using b)⟩
theorem IN{d:TypeDesc}{c:Nat}{k:T}{v:Value}(hd:∀{k' v'},yZ c k'=some v'→Instr.sameNow d v v'=some (A3 k k')):∀(l:List T) (es:List MapEntry) (i:Nat),fj c l es →
 Instr.findNow d v es i=some ((jH k l).bind fun j=>(es[j]?).map fun e=>(i+j,e.val))
 | [],[],_,_=>rfl
 | [],_::_,_,h=>h.elim
 | _::_,[],_,h=>h.elim
 | t::l,e::es,i,⟨⟨k',u,h1,h2⟩,h3⟩=>by
  subst h1
  simp only[Instr.findNow,hd h2]
  unfold jH
  rw[ZO]
  have hek:∀u,C4 (T.agg [k',u])=k':=fun _=>rfl
  rw[hek]
  cases hb:A3 k k' with
  | true=>simp
  | false=>
   simp only[nL,iD]
   rw[IN hd l es (i+1) h3]
   unfold jH
   cases l.findIdx? (fun t=>A3 k (C4 t)) with
   | none=>rfl
   | some j=>
    simp only[fA,tG,ON]
    have:i+1+j=i+(j+1):=by omega
    rw[this]
theorem HL{kt:TypeId}{c:Nat}{k:T}{v:Value}(w:World)(hd:∀{k' v'},yZ c k'=some v'→(Op.equal kt v v').run P w=.ok (A3 k k') w):∀(l:List T) (es:List MapEntry) (i:Nat),fj c l es →
 (Instr.findAsking kt v es i).run P w=.ok ((jH k l).bind fun j=>(es[j]?).map fun e=>(i+j,e.val)) w
 | [],[],_,_=>rfl
 | [],_::_,_,h=>h.elim
 | _::_,[],_,h=>h.elim
 | t::l,e::es,i,⟨⟨k',u,h1,h2⟩,h3⟩=>by
  subst h1
  simp only[Instr.findAsking,Sem.run_bind,hd h2,Result.andThen_ok]
  unfold jH
  rw[ZO]
  have hek:∀u,C4 (T.agg [k',u])=k':=fun _=>rfl
  rw[hek]
  cases hb:A3 k k' with
  | true=>simp
  | false=>
   simp only[nL,iD]
   rw[HL w hd l es (i+1) h3]
   unfold jH
   cases l.findIdx? (fun t=>A3 k (C4 t)) with
   | none=>rfl
   | some j=>
    simp only[fA,tG,ON]
    have:i+1+j=i+(j+1):=by omega
    rw[this]
theorem Jp{kt:TypeId}{c:Nat}{k:T}{v:Value}(hk:MT P kt=some c)(hv:yZ c k=some v){l:List T}{es:List MapEntry}(h:fj c l es)(w:World):
 (Instr.findKey kt v es).run P w=.ok ((jH k l).bind fun j=>(es[j]?).map fun e=>(j,e.val)) w:=by
 unfold MT at hk
 split at hk
 ·rename_i hu
  cases hk
  have hd:∀{k' v'},yZ 0 k'=some v'→Instr.sameNow (.int .i64) v v'=some (A3 k k'):=fun {k' v'} h'=>by
   rcases jI hv with⟨_,a,rfl,rfl⟩ | ⟨hc,_⟩ | ⟨m,xs,hc,_⟩
   ·rcases jI h' with⟨_,b,rfl,rfl⟩ | ⟨hc,_⟩ | ⟨m,xs,hc,_⟩
    ·simp[Instr.sameNow,A3,PG]
    ·cases hc
    ·cases hc
   ·cases hc
   ·cases hc
  have:=MapKept.run_findKey (w:=w) hu (IN hd l es 0 h)
  simpa only[H8] using this
 ·rename_i hu
  cases hk
  have hd:∀{k' v'},yZ 1 k'=some v'→Instr.sameNow .string v v'=some (A3 k k'):=fun {k' v'} h'=>by
   rcases jI hv with⟨hc,_⟩ | ⟨_,a,rfl,rfl⟩ | ⟨m,xs,hc,_⟩
   ·cases hc
   ·rcases jI h' with⟨hc,_⟩ | ⟨_,b,rfl,rfl⟩ | ⟨m,xs,hc,_⟩
    ·cases hc
    ·simp[Instr.sameNow,A3,PG]
    ·omega
   ·omega
  have:=MapKept.run_findKey (w:=w) hu (IN hd l es 0 h)
  simpa only[H8] using this
 ·rename_i n e hu
  split at hk
  ·rename_i he hsz hag
   cases hk
   have ha:=HL (P:=P) (kt:=kt) (k:=k) (v:=v) w (fun {k' v'} h'=>Fu hu he hsz hag hv h' w) l es 0 h
   simp only[H8] at ha
   have hn:∀es,es≠[]→Instr.findNow (.array n e) v es 0=none:=fun es hes=>by
    cases es with
    | nil=>exact(hes rfl).elim
    | cons x es=>rfl
   cases es with
   | nil=>
    cases l with
    | nil=>exact MapKept.run_findKey (w:=w) hu rfl
    | cons t l=>exact h.elim
   | cons x es=>
    unfold Instr.findKey
    simp only[Sem.run_bind,run_underlying hu,Result.andThen_ok,hn (x::es) (by simp)]
    exact ha
  ·cases hk
 ·cases hk
theorem HM(d:Nat):∀xs:List Int,((xs.map (Value.int .i64)).zip (xs.map (Value.int .i64))).all (fun(x,y)=>Instr.sameBits (d+1) x y)=true
 | []=>rfl
 | x::xs=>by
  have h:=HM d xs
  simp only[wO,List.zip_cons_cons,ET,cS]
  exact⟨by simp[Instr.sameBits],h⟩
theorem Fv{c:Nat}{k:T}{v:Value}(hv:yZ c k=some v)(w:World):(Instr.keyThatStays v v).run P w=.ok v w:=by
 have hs:Instr.sameBits 10000 v v=true:=by
  rcases jI hv with⟨_,a,rfl,rfl⟩ | ⟨_,s,rfl,rfl⟩ | ⟨m,xs,_,_,rfl,rfl⟩
  ·simp[Instr.sameBits]
  ·simp[Instr.sameBits,MapKept.bytes_beq]
  ·simp only[Instr.sameBits,T9,fM]
   exact HM 9998 xs
 unfold Instr.keyThatStays
 rw[aC hs]
 rfl
end
@[irreducible] def Wz(k:T)(l:List T)(z:T):T:=match jH k l with
 | some i=>Sp (l.getD i z)
 | none=>z
@[irreducible] def yJ(k v:T)(l:List T):List T:=match jH k l with
 | some i=>l.set i (.agg [k,v])
 | none=>l++[.agg [k,v]]
@[irreducible] def Xa(i:Int)(v:T)(l:List T):Option (List T):=if 0≤i then match l[i.toNat]? with
 | some t=>some (l.set i.toNat (.agg [C4 t,v]))
 | none=>none else none
section
variable {R:Type} (P:Program)
def MU:List C→(List T→Option R)→Option R
 | [],k=>k []
 | .t x::l,k=>ob (x.int? .i64) fun a=>MU l fun ts=>k (.v (.int .i64 a)::ts)
 | _::_,_=>none
def Fw(c:Nat)(d:D)(k:T→Option R):Option R:=match c with
 | 0=>RV .i64 d fun a=>k (.v (.int .i64 a))
 | 1=>RR d fun s=>k (.v (.string s))
 | m+2=>match d with
  | .s (.agg cs)=>if cs.length=m then MU cs fun ts=>k (.agg ts) else none
  | _=>none
def Xg(st:St)(n:Nat)(c:C)(k:List T→Option R):Option R:=match c with
 | .t (.sl n' l)=>if n'=n then k l else none
 | .row key=>match st.ae[key]? with
  | some (.mp _ _ n' l)=>if n'=n then k l else none
  | _=>none
 | _=>none
def GN{R:Type}(P:Program)(st:St)(t:TypeId)(x ix:D)(ok:Bool)(k:D→Option R):Option R:=none
def AH(st:St)(dst:Option Nat)(t:TypeId)(k:St→D→Option R):Option R:=match P.underlying t with
 | some (.map kt _)=>match MT P kt with
  | some c=>qP st dst (.mp false t (c+1000000000) []) fun st key=>k st (.s (.c (.row key)))
  | none=>none
 | _=>none
def Xh(v:D)(ts:List T):Option T:=match v,ts with
 | .s (.agg _),ts=>some (.agg ts)
 | .s (.c _),[t]=>some t
 | _,_=>none
def zB(st:St)(t:TypeId)(m key v:D)(k:St→Option R):Option R:=match P.underlying t with
 | some (.map kt e)=>match MT P kt with
  | some c=>Fw c key fun kk=>match m,E3 v with
   | .s (.c (.row mk)),some cs=>match RX st.ae cs with
    | some (objs',cs')=>match objs'[mk]? with
     | some (.mp false t' n l)=>if n=c+1000000000 then oR P ((P.cellTypes P.depth e).getD []) cs' fun ts=>match Xh v ts with
      | some tv=>k { st with ae:=objs'.set mk (.mp false t' n (yJ kk tv l)) }
      | none=>none
      else none
     | _=>none
    | none=>none
   | _,_=>none
  | none=>none
 | _=>none
def GO{R:Type}(P:Program)(st:St)(t:TypeId)(m key:D)(k:St→D→Option R):Option R:=none
def zP{R:Type}(P:Program)(st:St)(t:TypeId)(m stamp v:D)(k:St→Option R):Option R:=none
end
section
variable {R:Type} {P:Program} {w0 w w':World} {F Xc X:Nat→Prop} {ρ0:cq} {ρ:nP} {st:St} {a:Act} {r:R}
theorem XH:∀{cs:List C} {ys:List Value} {k:List T→Option R},bw w X ρ cs ys→MU cs k=some r→∃ts,JD ts=some ys∧ts.length=cs.length∧k ts=some r
 | [],ys,k,h,hk=>by
  have:ys=[]:=uK h.1
  subst this
  exact⟨[],rfl,rfl,hk⟩
 | c::cs,ys,k,h,hk=>by
  cases ys with
  | nil=>have:=h.1;simp at this
  | cons y ys=>
   cases c with
   | t x=>
    simp only[MU] at hk
    obtain⟨n,hn,hk1⟩:=bO hk
    have h0:=h.2 0 _ y rfl rfl
    have htail:bw w X ρ cs ys:=⟨by simpa using h.1,fun i c y h1 h2=>h.2 (i+1) c y (by simpa using h1) (by simpa using h2)⟩
    obtain⟨ts,e1,e2,e3⟩:=XH htail hk1
    have hy:y=.int .i64 n:=by
     rcases h0 with h0 | ⟨h0,_⟩
     ·cases h0
     ·exact UP h0 hn
    subst hy
    exact⟨_,by simp[JD,e1],by simp[e2],e3⟩
   | _=>simp[MU] at hk
theorem Ow{c:Nat}{d:D}{y:Value}{k:T→Option R}(h:bc w X ρ d y)(hk:Fw c d k=some r):∃t,yZ c t=some y∧k t=some r:=by
 match c with
 | 0=>
  obtain⟨n,rfl,hk1⟩:=zZ h hk
  exact⟨_,rfl,hk1⟩
 | 1=>
  obtain⟨n,rfl,hk1⟩:=BO h hk
  exact⟨_,rfl,hk1⟩
 | m+2=>
  simp only[Fw] at hk
  split at hk
  ·rename_i cs
   split at hk
   ·rename_i hl
    obtain⟨vs,rfl,hl'⟩:=h
    obtain⟨ts,e1,e2,e3⟩:=XH hl' hk
    exact⟨.agg ts,by simp[yZ,e1,e2,hl],e3⟩
   ·cases hk
  ·cases hk
theorem JN{k:T}{l:List T}{i:Nat}(h:jH k l=some i):∃t,l[i]?=some t∧A3 k (C4 t)=true:=by
 unfold jH at h
 rw[List.findIdx?_eq_some_iff_getElem] at h
 obtain⟨hi,h1,_⟩:=h
 exact⟨l[i],dH hi,h1⟩
theorem Jq{n c:Nat}{kt:TypeId}{l:List T}{es:Array MapEntry}{kk:T}{kv:Value}(hkd:MT P kt=some c)(hkv:yZ c kk=some kv)(hn:n=c+1000000000)(hl:es.size=l.length)
 (hs:∀(i:Nat) t e,l[i]?=some t→es[i]?=some e→∃k v,t=.agg [k,v]∧yZ (n-1000000000) k=some e.key∧WS v e.val) (w:World):
 (jH kk l=none∧(Instr.findKey kt kv es.toList).run P w=.ok none w) ∨
 ∃i k v e,jH kk l=some i∧l[i]?=some (.agg [k,v])∧es[i]?=some e∧e.key=kv∧WS v e.val∧(Instr.findKey kt kv es.toList).run P w=.ok (some (i,e.val)) w:=by
 have hc:n-1000000000=c:=by omega
 rw[hc] at hs
 have hr:fj c l es.toList:=fj.of (by simpa using hl) fun i t e h1 h2=>hs i t e h1 (by simpa using h2)
 have hf:=Jp hkd hkv hr w
 cases hm:jH kk l with
 | none=>rw[hm] at hf;exact .inl ⟨rfl,hf⟩
 | some i=>
  obtain⟨t,h1,h2⟩:=JN hm
  have hlt:i<es.size:=by rw[hl];exact(dL.1 h1).1
  have he:es[i]?=some es[i]:=uV hlt
  obtain⟨k,v,rfl,hk,ho⟩:=hs i t _ h1 he
  rw[hm] at hf
  have:es.toList[i]?=some es[i]:=by simp
  simp only[tG,this,fA] at hf
  refine .inr ⟨i,k,v,es[i],rfl,h1,he,?_,ho,hf⟩
  exact((XG hkv hk).1 h2).symm
theorem Af{t:TypeId}{x ix:D}{vx vi:Value}{ok:Bool}{k:D→Option R}(h:Rel w0 F Xc ρ0 ρ st a w)(hx:bc w (XB st.ae ρ Xc) ρ x vx)(hi:bc w (XB st.ae ρ Xc) ρ ix vi)(hk:GN P st t x ix ok k=some r):
 ∃y d,(Instr.lookup t vx vi ok).run P w=.ok y w∧bc w (XB st.ae ρ Xc) ρ d y∧k d=some r:=by
 unfold GN at hk
 cases hk
theorem XI{dst:Option Nat}{t:TypeId}{k:St→D→Option R}(h:Rel w0 F Xc ρ0 ρ st a w)(hk:AH P st dst t k=some r):
 ∃y w' ρ' st' d,(Instr.makeMap t none).run P w=.ok y w'∧Rel w0 F Xc ρ0 ρ' st' a w'∧bc w' (XB st'.ae ρ' Xc) ρ' d y∧k st' d=some r:=by
 unfold AH at hk
 split at hk
 case h_2=>cases hk
 rename_i kt e hu
 split at hk
 case h_2=>cases hk
 rename_i c hc
 obtain⟨d,_,hf,hk1⟩:=CW hk
 refine⟨_,_,_,_,_,run_makeMap t w,h.new (hv:=.map (some w.heap.size)) (o:=.mp false t (c+1000000000) []) hf (cg.alloc (fun _=>False) w (.map #[] 0)) (fun b hb=>by simp only[bq,cG] at hb;omega)
  (fun X' hX=>⟨by omega,w.heap.size,#[],0,rfl,heap_alloc_new w _,⟨rfl,fun i t e h1 _=>by simp at h1,fun i k v e h1 _=>by simp at h1,rfl,fun i e h1=>by simp at h1⟩,fun hz=>by cases hz⟩) (HC _ _) (by simp),
  .one (c:=.row (st.np+d)) (by simp[ib,ax]) rfl,hk1⟩
def dd(w:World)(g:Nat)(es:Array MapEntry)(clock:Nat):World:={ w with heap:=w.heap.setIfInBounds g (.map es clock) }
theorem PJ(w:World)(g:Nat)(es:Array MapEntry)(clock:Nat):cg (fun b=>b=g) w (dd w g es clock):=
 ⟨rfl,rfl,rfl,by simp[dd],fun b _ hb=>by simp[dd,OS hb]⟩
theorem Rel.dd{key g n clock clock':Nat}{t:TypeId}{l l':List T}{es es':Array MapEntry}(h:Rel w0 F Xc ρ0 ρ st a w)(ho:st.ae[key]?=some (.mp false t n l))(hh:ρ key=some (.map (some g)))(hn:1000000000≤n)
 (hg:w.heap[g]?=some (.map es clock)) (hent:gi w (XB st.ae ρ Xc) n l' es' clock'):Rel w0 F Xc ρ0 ρ { st with ae:=st.ae.set key (.mp false t n l') } a (dd w g es' clock'):=by
 have hlt:key<st.ae.length:=(dL.1 ho).1
 have hHas:Has st.ae ρ key g:=⟨_,_,ho,rfl,hh,.inl rfl⟩
 refine h.change _ ρ (·=key) (PJ w g es' clock') (fun jj hj=>⟨by rw[fK (fun e=>hj e.symm)],rfl⟩) (.refl _) (fun b hb=>⟨key,rfl,hb▸hHas⟩)
  (fun jj b hj hb=>?_) (fun jj j' b hj hj' _ _=>hj.trans hj'.symm) (fun hX jj o' hj ho'=>?_) (fun _ _=>rfl)
 ·subst hj
  obtain⟨o',v,_,_,q3,q4⟩:=hb
  rw[hh] at q3
  cases q3
  have q5:=q4.one rfl
  cases q5
  exact .inl ⟨_,rfl,hHas⟩
 ·subst hj
  rw[iJ hlt] at ho'
  cases ho'
  refine⟨_,hh,hn,g,es',clock',rfl,?_,hent.step (PJ w g es' clock') (fun b hb=>.inl ⟨_,hb▸hHas⟩) hX,fun hz=>by cases hz⟩
  have hgl:g<w.heap.size:=(zW.1 hg).1
  simp[Eng.dd,hgl]
theorem Sq{X0:Nat→Prop}{v:D}{y:Value}{cs cs':List C}{ts:List T}{tv:T}(hv:bc w X0 ρ v y)(hcs:E3 v=some cs)(hlen:cs'.length=cs.length)(hr:dp w X ts y.cells.toList)(hna:∀t∈ts,∀l,t≠.agg l)(hm:Xh v ts=some tv):Rd w X tv y∧WS tv y:=by
 unfold Xh at hm
 split at hm
 ·rename_i cl
  cases hm
  obtain⟨vs,rfl,hl⟩:=hv
  refine⟨.agg _ vs (by have:=hr.1;simpa[Value.cells] using this) (fun i z hi=>?_) fun i t z e1 e2=>?_,.inl ⟨_,rfl⟩⟩
  ·have hlt:i<ts.length:=by have:=hr.1;simp only[Value.cells,mO] at this;rw[←this];exact(zW.1 hi).1
   exact(hr.2 i _ z (dH hlt) (by simpa[Value.cells] using hi)).2
  ·exact(hr.2 i t z e1 (by simpa[Value.cells] using e2)).1
 ·rename_i c t
  cases hm
  rcases hv with hv | ⟨_,h1⟩
  ·subst hv;simp[E3] at hcs
  ·rw[ST h1] at hr
   have:=hr.2 0 _ y rfl rfl
   exact⟨this.1,.inr h1⟩
 ·cases hm
theorem Ox{n c clock:Nat}{l:List T}{es:Array MapEntry}{kk tv:T}{kv y:Value}(he:gi w X n l es clock)(hn:n=c+1000000000)(hkk:yZ c kk=some kv)(hr:Rd w X tv y)(h1:WS tv y):
 (jH kk l=none→gi w X n (yJ kk tv l) (es.push ⟨kv,y,clock⟩) (clock+1)) ∧
 ∀i,jH kk l=some i→gi w X n (yJ kk tv l) (es.modify i fun e=>{ e with key:=kv,val:=y }) clock:=by
 have hc:n-1000000000=c:=by omega
 obtain⟨q1,q2,q3,q4,q5⟩:=he
 refine⟨fun hm=>?_,fun i hm=>?_⟩
 ·have hp:yJ kk tv l=l++[.agg [kk,tv]]:=by unfold yJ;rw[hm]
  rw[hp]
  refine⟨by simp[q1],fun i t e e1 e2=>?_,fun i k v e e1 e2=>?_,by simp[q4],fun i e e2=>?_⟩
  ·rw[rR] at e1
   rw[ZP] at e2
   split at e1
   ·rename_i hlt
    rw[aA (by omega)] at e2
    exact q2 i t e e1 e2
   ·rename_i hge
    have hi:i=l.length:=by
     have:=(dL.1 e1).1
     simp at this;omega
    subst hi
    rw[aC q1.symm] at e2
    cases e2
    simp at e1
    subst e1
    exact⟨kk,tv,rfl,by rw[hc];exact hkk,h1⟩
  ·rw[rR] at e1
   rw[ZP] at e2
   split at e1
   ·rename_i hlt
    rw[aA (by omega)] at e2
    exact q3 i k v e e1 e2
   ·have hi:i=l.length:=by
     have:=(dL.1 e1).1
     simp at this;omega
    subst hi
    rw[aC q1.symm] at e2
    cases e2
    simp at e1
    obtain⟨rfl,rfl⟩:=e1
    exact hr
  ·rw[ZP] at e2
   split at e2
   ·rename_i hi
    cases e2
    show clock=i
    omega
   ·exact q5 i e e2
 ·obtain⟨t,g1,_⟩:=JN hm
  have hil:i<l.length:=(dL.1 g1).1
  have hp:yJ kk tv l=l.set i (.agg [kk,tv]):=by unfold yJ;rw[hm]
  rw[hp]
  refine⟨by simp[q1],fun j t e e1 e2=>?_,fun j k v e e1 e2=>?_,by simp[q4],fun j e e2=>?_⟩
  ·rw[qO] at e1
   rw[T0] at e2
   split at e1
   ·rename_i hij
    subst hij
    rw[aC rfl] at e2
    cases e1
    obtain⟨e0,g2,rfl⟩:=I4.1 e2
    exact⟨kk,tv,rfl,by rw[hc];exact hkk,h1⟩
   ·rename_i hij
    rw[aA hij] at e2
    exact q2 j t e e1 e2
  ·rw[qO] at e1
   rw[T0] at e2
   split at e1
   ·rename_i hij
    subst hij
    rw[aC rfl] at e2
    cases e1
    obtain⟨e0,g2,rfl⟩:=I4.1 e2
    exact hr
   ·rename_i hij
    rw[aA hij] at e2
    exact q3 j k v e e1 e2
  ·rw[T0] at e2
   split at e2
   ·rename_i hij
    subst hij
    obtain⟨e0,g2,rfl⟩:=I4.1 e2
    exact q5 _ e0 g2
   ·exact q5 j e e2
end
section
variable {R:Type} {P:Program} {w0 w w':World} {F Xc X:Nat→Prop} {ρ0:cq} {ρ:nP} {st:St} {a:Act} {r:R}
theorem R2{t kt e:TypeId}{n c g clock:Nat}{l:List T}{es:Array MapEntry}{kk:T}{kv:Value}(hu:P.underlying t=some (.map kt e))(hc:MT P kt=some c)(hkk:yZ c kk=some kv)(hn:n=c+1000000000)
 (hg:w.heap[g]?=some (.map es clock)) (hl:es.size=l.length) (hs:∀(i:Nat) t e,l[i]?=some t→es[i]?=some e→∃k v,t=.agg [k,v]∧yZ (n-1000000000) k=some e.key∧WS v e.val) (y:Value):
 (jH kk l=none∧(Instr.mapUpdate t (.map (some g)) kv y).run P w=.ok () (dd w g (es.push ⟨kv,y,clock⟩) (clock+1))) ∨
 ∃i,jH kk l=some i∧(Instr.mapUpdate t (.map (some g)) kv y).run P w=.ok () (dd w g (es.modify i fun e=>{ e with key:=kv,val:=y }) clock):=by
 have hch:=fun em=>Ft hc hkk em w
 rcases Jq hc hkk hn hl hs w with⟨h1,h2⟩ | ⟨j,kj,vj,ej,h1,h2,h3,h4,h5,h6⟩
 ·refine .inl ⟨h1,?_⟩
  unfold Instr.mapUpdate
  simp only[Sem.run_bind,run_underlying hu,Result.andThen_ok,MapKept.run_getObj_map hg,hch,h2,MapKept.run_setObj_map _ hg]
  rfl
 ·refine .inr ⟨j,h1,?_⟩
  have hst:=Fv (P:=P) hkk w
  unfold Instr.mapUpdate
  simp only[Sem.run_bind,run_underlying hu,Result.andThen_ok,MapKept.run_getObj_map hg,hch,h6,h3,fA,Option.getD_some,h4,hst,MapKept.run_setObj_map _ hg]
  rfl
theorem PK{t:TypeId}{m key v:D}{vm vk vv:Value}{k:St→Option R}(h:Rel w0 F Xc ρ0 ρ st a w)(hm:bc w (XB st.ae ρ Xc) ρ m vm)(hkey:bc w (XB st.ae ρ Xc) ρ key vk)(hv:bc w (XB st.ae ρ Xc) ρ v vv)
 (hk:zB P st t m key v k=some r):∃st' w',(Instr.mapUpdate t vm vk vv).run P w=.ok () w'∧Rel w0 F Xc ρ0 ρ st' a w'∧k st'=some r:=by
 unfold zB at hk
 split at hk
 case h_2=>cases hk
 rename_i kt e hu
 split at hk
 case h_2=>cases hk
 rename_i c hc
 obtain⟨kk,hkk,hk1⟩:=Ow hkey hk
 clear hk
 split at hk1
 case h_2=>cases hk1
 rename_i mk cs hcs
 split at hk1
 case h_2=>cases hk1
 rename_i objs' cs' hfq
 obtain⟨hR,hl⟩:=UY h (CA hv hcs) hfq
 split at hk1
 case h_2=>cases hk1
 rename_i t' n l hob
 split at hk1
 case isFalse=>cases hk1
 rename_i hn
 obtain⟨ts,hk2,t1,t2,t3⟩:=GK hl hk1
 split at hk2
 case h_2=>cases hk2
 rename_i tv htv
 have hlen:cs'.length=cs.length:=by
  have q1:=hl.1
  have q2:=(CA hv hcs).1
  omega
 obtain⟨r1,r2⟩:=Sq hv hcs hlen t2 t3 htv
 rcases hm with hm | ⟨hm,_⟩
 ·cases hm
 have cj:ρ mk=some vm:=hm
 obtain⟨vm',e1,h0,g,es,clock,rfl,hg,he,_⟩:=hR.ae mk _ hob
 rw[cj] at e1
 cases e1
 obtain⟨p1,p2⟩:=Ox (kk:=kk) (tv:=tv) (kv:=vk) (y:=vv) he hn hkk r1 r2
 rcases R2 hu hc hkk hn hg he.1 he.2.1 vv with⟨q1,q2⟩ | ⟨i,q1,q2⟩
 ·exact⟨_,_,q2,hR.dd hob cj h0 hg (p1 q1),hk2⟩
 ·exact⟨_,_,q2,hR.dd hob cj h0 hg (p2 i q1),hk2⟩
theorem Ag{t:TypeId}{m key:D}{vm vk:Value}{k:St→D→Option R}(h:Rel w0 F Xc ρ0 ρ st a w)(hm:bc w (XB st.ae ρ Xc) ρ m vm)(hkey:bc w (XB st.ae ρ Xc) ρ key vk)
 (hk:GO P st t m key k=some r):∃y st' w' d,(Instr.mapEntry t vm vk).run P w=.ok y w'∧Rel w0 F Xc ρ0 ρ st' a w'∧bc w' (XB st'.ae ρ Xc) ρ d y∧k st' d=some r:=by
 unfold GO at hk
 cases hk
theorem U3{t:TypeId}{m stamp v:D}{vm vs vv:Value}{k:St→Option R}(h:Rel w0 F Xc ρ0 ρ st a w)(hm:bc w (XB st.ae ρ Xc) ρ m vm)(hst:bc w (XB st.ae ρ Xc) ρ stamp vs)(hv:bc w (XB st.ae ρ Xc) ρ v vv)
 (hk:zP P st t m stamp v k=some r):∃st' w',(Instr.entryStore t vm vs vv).run P w=.ok () w'∧Rel w0 F Xc ρ0 ρ st' a w'∧k st'=some r:=by
 unfold zP at hk
 cases hk
end
section
variable {R:Type} {P:Program} {w0 w w':World} {F Xc X:Nat→Prop} {ρ0:cq} {ρ:nP} {st:St} {a:Act} {r:R}
def MR(w:World)(X:Nat→Prop)(ρ:nP):Option D→Option Value→Prop
 | some d,some v=>bc w X ρ d v
 | none,none=>True
 | _,_=>False
theorem wT{od:Option D}{ov:Option Value}{dflt:Int}{k:Int→Option R}(h:MR w X ρ od ov)(hk:C0 od dflt k=some r):
 ∃n,k n=some r∧((ov=none∧n=dflt)∨∃kd,ov=some (.int kd n)):=by
 cases od with
 | none=>
  cases ov with
  | none=>exact⟨dflt,hk,.inl ⟨rfl,rfl⟩⟩
  | some v=>exact h.elim
 | some d=>
  cases ov with
  | none=>exact h.elim
  | some v=>
   obtain⟨kd,n,rfl,hk1⟩:=sL h hk
   exact⟨n,hk1,.inr ⟨kd,rfl⟩⟩
theorem E6{isS:Bool}{len cap:Nat}{lo hi:Option Value}{l h:Int}(hl:(lo=none∧l=0)∨∃kd,lo=some (.int kd l))(hh:(hi=none∧h=len)∨∃kd,hi=some (.int kd h))
 (h0:0≤h) (hlen:h≤len) (hcap:len≤cap) (l0:0≤l) (hlh:l≤h):
 (Instr.sliceBounds isS len cap lo hi none).run P w=.ok (l.toNat,h.toNat,cap) w:=by
 have hb:∀(kd:IntKind) (i:Int) (n:Nat) (c:BoundsCode),0≤i→i≤n→(Instr.sliceBound (.int kd i) n c).run P w=.ok i.toNat w:=by
  intro kd i n c h1 h2
  unfold Instr.sliceBound
  simp only[asIntOf,Sem.run_bind,Sem.run_pure,Result.andThen_ok]
  rw[Sem.run_ite,aC ⟨h1,h2⟩]
  rfl
 unfold Instr.sliceBounds
 rcases hh with⟨rfl,rfl⟩ | ⟨kd,rfl⟩ <;> rcases hl with⟨rfl,rfl⟩ | ⟨kd',rfl⟩
 ·simp only[Sem.run_bind,Sem.run_pure,Result.andThen_ok];rfl
 ·simp only[Sem.run_bind,Sem.run_pure,Result.andThen_ok]
  rw[hb _ _ _ _ l0 (by omega)]
  simp only[Result.andThen_ok,nO]
 ·simp only[Sem.run_bind,Sem.run_pure,Result.andThen_ok]
  rw[hb _ _ _ _ h0 (by omega)]
  simp only[Result.andThen_ok]
  rfl
 ·simp only[Sem.run_bind,Sem.run_pure,Result.andThen_ok]
  rw[hb _ _ _ _ h0 (by omega)]
  simp only[Result.andThen_ok]
  rw[hb _ _ _ _ l0 (by omega)]
  simp only[Result.andThen_ok]
theorem M8{len cap:Nat}{lo:Option Value}{l h m:Int}{kh km:IntKind}(hl:(lo=none∧l=0)∨∃kd,lo=some (.int kd l))(m0:0≤m)(hm:m≤cap)(h0:0≤h)(hhm:h≤m)(l0:0≤l)(hlh:l≤h):
 (Instr.sliceBounds true len cap lo (some (.int kh h)) (some (.int km m))).run P w=.ok (l.toNat,h.toNat,m.toNat) w:=by
 have hb:∀(kd:IntKind) (i:Int) (n:Nat) (c:BoundsCode),0≤i→i≤n→(Instr.sliceBound (.int kd i) n c).run P w=.ok i.toNat w:=by
  intro kd i n c h1 h2
  unfold Instr.sliceBound
  simp only[asIntOf,Sem.run_bind,Sem.run_pure,Result.andThen_ok]
  rw[Sem.run_ite,aC ⟨h1,h2⟩]
  rfl
 unfold Instr.sliceBounds
 rcases hl with⟨rfl,rfl⟩ | ⟨kd',rfl⟩
 ·simp only[Sem.run_bind,Sem.run_pure,Result.andThen_ok]
  rw[hb _ _ _ _ m0 hm]
  simp only[Result.andThen_ok]
  rw[hb _ _ _ _ h0 (by omega)]
  simp only[Result.andThen_ok]
  rfl
 ·simp only[Sem.run_bind,Sem.run_pure,Result.andThen_ok]
  rw[hb _ _ _ _ m0 hm]
  simp only[Result.andThen_ok]
  rw[hb _ _ _ _ h0 (by omega)]
  simp only[Result.andThen_ok]
  rw[hb _ _ _ _ l0 (by omega)]
  simp only[Result.andThen_ok]
theorem UZ{n:Nat}{c:C}{v:Value}{q:Int×(Nat×Nat→Bool→C)}(hR:Rel w0 F Xc ρ0 ρ st a w)(hc:cm w (XB st.ae ρ Xc) ρ c v)(hq:Z9 st n c=some q):
 ∃(ad:Option Addr) (L cap:Nat),v=.slice ad L cap∧L≤cap∧q.1=L∧∀(lo hi m:Nat) (tg:Bool),lo≤hi→hi≤m→hi≤L→m≤cap→(tg=true→hi=m) →
  cm w (XB st.ae ρ Xc) ρ (q.2 (lo,hi-lo) tg) (.slice (if m=lo then ad else ad.map (·.add (lo*n))) (hi-lo) (m-lo)):=by
 unfold Z9 at hq
 split at hq
 ·rename_i y
  cases hes:y.kf n with
  | none=>simp[hes] at hq
  | some es=>
   simp only[hes,fA,cG] at hq
   subst hq
   rcases hc with hc | ⟨hc,_⟩
   ·cases hc
   obtain⟨hnm,hes⟩:=T.fh hes
   have hy:Rd w (XB st.ae ρ Xc) (.sl n es) v:=by
    unfold T.im at hes
    split at hes
    ·rw[aC hnm] at hes;cases hes;have:=Rd.cr hc;subst this;exact .nil n hnm
    ·split at hes
     ·rename_i hk;cases hes;subst hk;exact hc
     ·cases hes
    ·cases hes
   cases hy with
   | mp _ _ _ _ _ hbig=>omega
   | nil=>
    refine⟨none,0,0,rfl,gB _,by unfold aI;rfl,fun lo hi m tg h1 h2 h3 h4 _=>?_⟩
    have e1:hi=0:=by omega
    have e2:lo=0:=by omega
    have e3:m=0:=by omega
    subst e1;subst e2;subst e3
    refine .inr ⟨?_,rfl⟩
    show Rd _ _ (.sl n (oC [] 0 0)) (.slice none 0 0)
    unfold oC
    exact .nil n hnm
   | sl _ _ ad c ys _ hc' hm hu hyl hcell hr=>
    refine⟨some ad,_,c,rfl,hc',by unfold aI;rfl,fun lo hi m tg h1 h2 h3 h4 _=>.inr ⟨?_,rfl⟩⟩
    show Rd _ _ (.sl n (oC es lo (hi-lo))) _
    unfold oC
    have hlen:((es.drop lo).take (hi-lo)).length=hi-lo:=by rw[nM,MK];omega
    have hfl:flat ((es.drop lo).take (hi-lo))=((flat es).drop (lo*n)).take ((hi-lo)*n):=by rw[(hu.drop lo).de,hu.ct]
    by_cases hml:m=lo
    ·rw[aC hml]
     have hz:hi-lo=0:=by omega
     rw[hz,List.take_zero]
     exact .sl n [] ad _ [] hnm (HE _) (by omega) (.nil _) rfl (fun i y hi=>by simp at hi) (fun i t y hi _=>by simp[flat] at hi)
    ·rw[aA hml]
     have hul:=hu.length
     have key:Rd w (XB st.ae ρ Xc) (.sl n ((es.drop lo).take (hi-lo))) (.slice (some (ad.add (lo*n))) ((es.drop lo).take (hi-lo)).length (m-lo)):=by
      refine .sl n _ _ _ ((ys.drop (lo*n)).take ((hi-lo)*n)) hnm (by rw[hlen];omega) (by omega) ((hu.drop lo).take _) (by rw[hfl];simp[hyl]) (fun i y hi=>?_) (fun i t y h1 h2=>?_)
      ·rw[pT] at hi
       split at hi
       ·rw[tO] at hi
        rw[sK,uN]
        exact hcell _ y hi
       ·cases hi
      ·rw[hfl] at h1
       rw[pT] at h1 h2
       split at h1
       ·rename_i hlt
        rw[aC hlt] at h2
        rw[tO] at h1 h2
        exact hr _ t y h1 h2
       ·cases h1
     rw[hlen] at key
     exact key
 ·rename_i key
  split at hq
  ·rename_i fz e n' es hob
   split at hq
   ·rename_i hn
    subst hn
    cases hq
    rcases hc with hc | ⟨hc,_⟩
    ·cases hc
    obtain⟨hv,e1,e2⟩:=hR.ae key _ hob
    have hcc:ρ key=some v:=hc
    rw[hcc] at e1
    cases e1
    obtain⟨ad,cap,hv,hlc,hnil⟩:∃ad cap,v=.slice ad es.length cap∧es.length≤cap∧(ad=none→cap=0):=by
     rcases pG e2 with⟨rfl,rfl⟩ | ⟨a0,cap,rfl,h1,_⟩
     ·exact⟨none,0,rfl,gB _,fun _=>rfl⟩
     ·exact⟨some a0,cap,rfl,h1,fun h=>by cases h⟩
    subst hv
    refine⟨ad,es.length,cap,rfl,hlc,by unfold aI;rfl,fun lo hi m tg h1 h2 h3 h4 h5=>.inr ⟨⟨_,hcc,ad,es.length,cap,m-lo,_,rfl,rfl,by omega,by omega,by omega,fun h6=>by rw[aA (by omega)],fun h6=>by have:=h5 h6;omega⟩,rfl⟩⟩
   ·cases hq
  ·cases hq
 ·rename_i key m' b len tg'
  split at hq
  ·rename_i hn
   subst hn
   cases hq
   rcases hc with hc | ⟨⟨hv,q1,q2⟩,_⟩
   ·cases hc
   obtain⟨ao,L,c,cc,ao',rfl,rfl,g1,g2,g3,g4,g5⟩:=q2
   refine⟨ao',len,cc,rfl,g2,by unfold US;rfl,fun lo hi m tg h1 h2 h3 h4 h5=>.inr ⟨?_,rfl⟩⟩
   show ib _ _ _ (.cut key m' (Ix b lo) (hi-lo) tg) _
   unfold Ix
   refine⟨_,q1,ao,L,c,m-lo,_,rfl,rfl,by omega,by omega,by omega,fun h6=>?_,fun h6=>by have:=h5 h6;omega⟩
   rw[aA (by omega),g4 (by omega),Option.map_map]
   cases ao with
   | none=>rfl
   | some a0=>simp only[fA,Function.comp,sK,tM]
  ·cases hq
 ·cases hq
theorem Fp{t:TypeId}{x:D}{v:Value}{lo hi mx:Option D}{vlo vhi vmx:Option Value}{k:D→Option R}(hR:Rel w0 F Xc ρ0 ρ st a w)(h:bc w (XB st.ae ρ Xc) ρ x v)(hlo:MR w (XB st.ae ρ Xc) ρ lo vlo)(hhi:MR w (XB st.ae ρ Xc) ρ hi vhi)
 (hmx:MR w (XB st.ae ρ Xc) ρ mx vmx) (hk:BR P st t x lo hi mx k=some r):∃y d,(Instr.sliceAt t v vlo vhi vmx).run P w=.ok y w∧bc w (XB st.ae ρ Xc) ρ d y∧k d=some r:=by
 unfold BR at hk
 split at hk
 ·rename_i hu
  split at hk
  case h_2=>cases hk
  have:vmx=none:=by cases vmx with | none=>rfl | some v=>exact hmx.elim
  subst this
  obtain⟨s,rfl,hk1⟩:=BO h hk
  obtain⟨h',hk2,eh⟩:=wT hhi hk1
  obtain⟨l',hk3,el⟩:=wT hlo hk2
  obtain⟨s',hs',hk4⟩:=bO hk3
  clear hk hk1 hk2 hk3
  unfold Vb at hs'
  split at hs'
  ·rename_i hc
   obtain⟨c1,c2,c3,c4⟩:=hc
   cases hs'
   refine⟨_,_,?_,.str _,hk4⟩
   unfold Instr.sliceAt
   simp only[Sem.run_bind,run_underlying hu,Result.andThen_ok]
   unfold Instr.slice
   simp only[Sem.run_bind,run_underlying hu,Result.andThen_ok,Option.isSome_none,nL,iD,Sem.run_pure]
   rw[E6 el (by unfold Oh at eh;exact eh) c1 c2 (gB _) c3 c4]
   rfl
  ·cases hs'
 ·rename_i e hu
  split at hk
  case h_2=>cases hk
  rename_i n hn
  obtain⟨c,rfl,hc,hk1⟩:=uX h hk
  clear hk
  have key2:∀{L cap:Nat} {ad:Option Addr} {h' l':Int},vmx=none→((vhi=none∧h'=L)∨∃kd,vhi=some (.int kd h'))→((vlo=none∧l'=0)∨∃kd,vlo=some (.int kd l'))→0≤l'→l'≤h'→h'≤L→L≤cap →
   (Instr.sliceAt t (.slice ad L cap) vlo vhi vmx).run P w=.ok (.slice (if cap=l'.toNat then ad else ad.map (·.add (l'.toNat*n))) (h'.toNat-l'.toNat) (cap-l'.toNat)) w:=by
   intro L cap ad h' l' hm eh el c1 c2 c3 hcap
   subst hm
   unfold Instr.sliceAt
   simp only[Sem.run_bind,run_underlying hu,Result.andThen_ok]
   unfold Instr.slice
   simp only[Sem.run_bind,run_underlying hu,Result.andThen_ok]
   rw[E6 el eh (by omega) c3 hcap c1 c2]
   simp only[Result.andThen_ok,iL hn,Sem.run_bind,Sem.run_pure]
  split at hk1
  ·rename_i y
   have:vmx=none:=by cases vmx with | none=>rfl | some v=>exact hmx.elim
   obtain⟨es,hes,hk1'⟩:=bO hk1
   obtain⟨h',hk2,eh⟩:=wT hhi hk1'
   obtain⟨l',hk3,el⟩:=wT hlo hk2
   obtain⟨es',hes',hk4⟩:=bO hk3
   clear hk1 hk1' hk2 hk3
   obtain⟨ad,L,cap,rfl,g1,g2,g3⟩:=UZ (n:=n) (q:=(aI es,fun p _=>.t (.sl n (oC es p.1 p.2)))) hR hc (by simp only[Z9,hes,fA])
   dsimp only at g2 g3
   unfold Vc at hes'
   split at hes'
   case isFalse=>cases hes'
   rename_i hcc
   obtain⟨c1,c2,c3,c4⟩:=hcc
   cases hes'
   have hLe:(es.length:Int)=L:=by unfold aI at g2;exact g2
   refine⟨_,_,key2 this (by rw[g2] at eh;exact eh) el c3 c4 (by omega) g1,?_,hk4⟩
   have:=g3 l'.toNat h'.toNat cap false (by omega) (by omega) (by omega) (gB _) (fun h=>by cases h)
   have e3:oC es l'.toNat (h'.toNat-l'.toNat)=(es.take h'.toNat).drop l'.toNat:=by unfold oC;rw[OP]
   rw[e3] at this
   exact this
  ·rename_i hnt
   have:vmx=none:=by cases vmx with | none=>rfl | some v=>exact hmx.elim
   obtain⟨q,hq,hk1'⟩:=bO hk1
   obtain⟨h',hk2,eh⟩:=wT hhi hk1'
   obtain⟨l',hk3,el⟩:=wT hlo hk2
   obtain⟨p,hp,hk4⟩:=bO hk3
   clear hk1 hk1' hk2 hk3
   obtain⟨ad,L,cap,rfl,g1,g2,g3⟩:=UZ hR hc hq
   rw[g2] at hp eh
   obtain⟨c1,c2,c3,rfl⟩:=Fc hp
   refine⟨_,_,key2 this eh el c1 c2 c3 g1,?_,hk4⟩
   have:=g3 l'.toNat h'.toNat cap false (by omega) (by omega) (by omega) (gB _) (fun h=>by cases h)
   have e3:(h'-l').toNat=h'.toNat-l'.toNat:=by omega
   rw[e3]
   exact this
  ·rename_i m
   split at hk1
   case h_2=>cases hk1
   rename_i hd
   cases vmx with
   | none=>exact hmx.elim
   | some vm=>
   cases vhi with
   | none=>exact hhi.elim
   | some vh=>
   obtain⟨q,hq,hk2⟩:=bO hk1
   obtain⟨km,m',rfl,hk3⟩:=sL hmx hk2
   obtain⟨kh,h',rfl,hk4⟩:=sL hhi hk3
   obtain⟨l',hk5,el⟩:=wT hlo hk4
   obtain⟨p,hp,hk6⟩:=bO hk5
   clear hk1 hk2 hk3 hk4 hk5
   obtain⟨ad,L,cap,rfl,g1,g2,g3⟩:=UZ hR hc hq
   rw[g2] at hp
   obtain⟨c1,c2,c3,c4,rfl⟩:=Fd hp
   refine⟨.slice (if m'.toNat=l'.toNat then ad else ad.map (·.add (l'.toNat*n))) (h'.toNat-l'.toNat) (m'.toNat-l'.toNat),_,?_,?_,hk6⟩
   ·unfold Instr.sliceAt
    simp only[Sem.run_bind,run_underlying hu,Result.andThen_ok]
    unfold Instr.slice
    simp only[Sem.run_bind,run_underlying hu,Result.andThen_ok]
    rw[M8 el (by omega) (by omega) (by omega) (by omega) c1 c2]
    simp only[Result.andThen_ok,iL hn,Sem.run_bind,Sem.run_pure]
   ·have:=g3 l'.toNat h'.toNat m'.toNat true (by omega) (by omega) (by omega) (by omega) (fun _=>by omega)
    have e3:(h'-l').toNat=h'.toNat-l'.toNat:=by omega
    rw[e3]
    exact this
 ·cases hk
theorem Ot{t ty:TypeId}{x:D}{v:Value}{k:D→Option R}(hR:Rel w0 F Xc ρ0 ρ st a w)(h:bc w (XB st.ae ρ Xc) ρ x v)(hk:EM P st t x k=some r):
 ∃y d,(Builtin.len_ #[t] ty #[v]).run P w=.ok y w∧bc w (XB st.ae ρ Xc) ρ d y∧k d=some r:=by
 have hlen:∀{d:TypeDesc} {y:Value} {q:Value},P.underlying t=some d→(match d,y with
  | .string,.string s=>some (goInt s.size)
  | .array n _,_=>some (goInt n)
  | .slice _,.slice _ n _=>some (goInt n)
  | _,_=>none)=some q→(Builtin.len_ #[t] ty #[y]).run P w=.ok q w:=by
  intro d y q hu he
  unfold Builtin.len_
  simp only[KY,zY,Sem.run_bind,run_underlying hu,Result.andThen_ok]
  split at he <;> first
   | (cases he;rfl)
   | (cases he;done)
 unfold EM at hk
 split at hk
 ·rename_i hu
  obtain⟨s,rfl,hk1⟩:=BO h hk
  exact⟨_,_,hlen hu rfl,.int .i64 _,by unfold Oh at hk1;exact hk1⟩
 ·rename_i e hu
  obtain⟨c,rfl,hc,hk1⟩:=uX h hk
  clear hk
  split at hk1
  ·rename_i y
   obtain⟨n,hn,hk2⟩:=bO hk1
   rcases hc with hc | ⟨hc,_⟩
   ·cases hc
   ·unfold T.mq at hn
    split at hn
    ·cases hn
     have:=Rd.cr hc
     subst this
     exact⟨_,_,hlen hu rfl,.int .i64 _,hk2⟩
    ·split at hn
     case isFalse=>cases hn
     rename_i hnm
     cases hn
     unfold aI at hk2
     cases hc with
     | mp _ _ _ _ _ hbig=>omega
     | nil=>exact⟨_,_,hlen hu rfl,.int .i64 _,hk2⟩
     | sl=>exact⟨_,_,hlen hu rfl,.int .i64 _,hk2⟩
    ·cases hn
  ·rename_i key
   split at hk1
   ·rename_i fz e' n' es hob
    rcases hc with hc | ⟨hc,_⟩
    ·cases hc
    ·obtain⟨hv,e1,e2⟩:=hR.ae key _ hob
     simp only[ib] at hc
     rw[hc] at e1
     cases e1
     unfold aI at hk1
     rcases pG e2 with⟨rfl,rfl⟩ | ⟨a0,cap,rfl,h1,h2,xs,hr,hcell⟩
     ·exact⟨_,_,hlen hu rfl,.int .i64 _,hk1⟩
     ·exact⟨_,_,hlen hu rfl,.int .i64 _,hk1⟩
   ·cases hk1
  ·rename_i key n lo len tg
   rcases hc with hc | ⟨⟨hv,q1,q2⟩,_⟩
   ·cases hc
   ·obtain⟨ao,L,c,cc,ao',rfl,rfl,g1,g2,g3,g4,_⟩:=q2
    unfold US at hk1
    exact⟨_,_,hlen hu rfl,.int .i64 _,hk1⟩
  ·rename_i key
   split at hk1
   case h_2=>cases hk1
   rename_i K hK
   split at hk1
   case h_2=>cases hk1
   rename_i l0 hob
   rcases hc with hc | ⟨⟨vs,q1,q2⟩,_⟩
   ·cases hc
   ·obtain⟨hole,e',e2,n',l,vs',f1,f2,f3,f4⟩:=CV hR hK q1
    rw[hob] at f1
    cases f1
    unfold aI at hk1
    rcases f4.head (f3.trans q2) with⟨rfl,rfl⟩ | ⟨a0,cap,rfl⟩
    ·exact⟨_,_,hlen hu rfl,.int .i64 _,hk1⟩
    ·exact⟨_,_,hlen hu rfl,.int .i64 _,hk1⟩
  ·cases hk1
 ·rename_i n e hu
  exact⟨_,_,hlen hu rfl,.int .i64 _,hk⟩
 ·rename_i kt e hu
  have hmap:∀{g:Nat} {es:Array MapEntry} {clock:Nat},w.heap[g]?=some (.map es clock)→(Builtin.len_ #[t] ty #[.map (some g)]).run P w=.ok (goInt es.size) w:=by
   intro g es clock hg
   unfold Builtin.len_
   simp only[KY,zY,Sem.run_bind,run_underlying hu,Result.andThen_ok,MapKept.run_getObj_map hg]
   rfl
  obtain⟨c,rfl,hc,hk1⟩:=uX h hk
  clear hk
  split at hk1
  ·rename_i n l
   split at hk1
   case isFalse=>cases hk1
   rename_i hnm
   rcases hc with hc | ⟨hc,_⟩
   ·cases hc
   ·unfold aI at hk1
    cases hc with
    | mp _ _ g es clock _ hg _ hl=>exact⟨_,_,hmap hg,by rw[hl];exact .int .i64 _,hk1⟩
    | nil=>omega
    | sl=>omega
  ·rename_i key
   split at hk1
   ·rename_i fz e' n' es hob
    rcases hc with hc | ⟨hc,_⟩
    ·cases hc
    ·obtain⟨hv,e1,e2⟩:=hR.ae key _ hob
     simp only[ib] at hc
     rw[hc] at e1
     cases e1
     unfold aI at hk1
     obtain⟨_,g,es',clock,rfl,hg,he,_⟩:=e2
     exact⟨_,_,hmap hg,by rw[he.1];exact .int .i64 _,hk1⟩
   ·cases hk1
  ·cases hk1
 ·cases hk
theorem LI:∀{l:List D} {vs:List Value} {caps:List (Nat×Nat)},l.length=vs.length→(∀(i:Nat) d v,l[i]?=some d→vs[i]?=some v→bc w X ρ d v)→LH l=some caps →
 vs.length=caps.length∧∀(i:Nat) p v,caps[i]?=some p→vs[i]?=some v→∃h,ρ p.1=some h∧O2 h p.2 v
 | [],vs,caps,hl,_,hc=>by
  simp only[LH,cG] at hc
  subst hc
  exact⟨hl.symm,fun i p v h1 _=>by simp at h1⟩
 | d::l,vs,caps,hl,hr,hc=>by
  cases vs with
  | nil=>simp at hl
  | cons v vs=>
   unfold LH at hc
   split at hc
   ·rename_i heq;cases heq
   ·rename_i k j l' heq
    cases heq
    cases hcl:LH l with
    | none=>simp[hcl] at hc
    | some caps'=>
     simp only[hcl,fA,cG] at hc
     subst hc
     obtain⟨e1,e2⟩:=LI (l:=l) (vs:=vs) (by simpa using hl) (fun i d v h1 h2=>hr (i+1) d v (by simpa using h1) (by simpa using h2)) hcl
     refine⟨by simp[e1],fun i p v' h1 h2=>?_⟩
     cases i with
     | zero=>
      simp at h1 h2
      subst h1;subst h2
      rcases hr 0 _ _ rfl rfl with hh | ⟨hh,_⟩
      ·cases hh
      ·exact hh
     | succ i=>exact e2 i p v' (by simpa using h1) (by simpa using h2)
   ·cases hc
theorem U1{fn:Fn}{first captured:List D}{vf vc:Array Value}{k:D→Option R}(hf:first.length=vf.toList.length)(hl:captured.length=vc.toList.length)
 (hr:∀(i:Nat) d v,captured[i]?=some d→vc.toList[i]?=some v→bc w X ρ d v) (hk:wS fn first captured k=some r):
 ∃y d,(Instr.makeFunc fn vf vc).run P w=.ok y w∧bc w X ρ d y∧k d=some r:=by
 unfold wS at hk
 split at hk
 ·rename_i f
  have hvf:vf=#[]:=by
   have:vf.toList=[]:=uK hf.symm
   exact ZQ.1 this
  subst hvf
  split at hk
  ·rename_i hc
   obtain⟨e1,_⟩:=LI hl hr hc
   have hvc:vc=#[]:=ZQ.1 (uK e1)
   subst hvc
   exact⟨_,_,rfl,.val rfl,hk⟩
  ·rename_i caps _ hc
   obtain⟨e1,e2⟩:=LI hl hr hc
   refine⟨_,_,rfl,.one (c:=.fn f caps) ⟨vc.toList,by simp,e1,e2⟩ rfl,hk⟩
  ·cases hk
 ·cases hk
end
section
variable {R:Type} {P:Program} {w0 w w':World} {F Xc X:Nat→Prop} {ρ0:cq} {ρ:nP} {st:St} {a:Act} {r:R}
theorem LJ{dst:Option Nat}{e:TypeId}{n:Nat}{l:List T}{cap:Nat}{jD:Array Value}{k:St→Nat→Option R}(h:Rel w0 F Xc ρ0 ρ st a w)(hn:0<n∧n<1000000000)(hu:dt n l)
 (hc:l.length≤cap) (hm:cap≤maxLen) (hsz:jD.size=cap*n) (hl:dp w (XB st.ae ρ Xc) (flat l) (jD.toList.take (l.length*n))) (hk:qP st dst (.row false e n l) k=some r):
 ∃ρ' st' key,Rel w0 F Xc ρ0 ρ' st' a (w.alloc (.cells jD e))∧bc (w.alloc (.cells jD e)) (XB st'.ae ρ' Xc) ρ' (.s (.c (.row key))) (.slice (some ⟨w.heap.size,0,none⟩) l.length cap)∧k st' key=some r:=by
 obtain⟨d,_,hf,hk1⟩:=CW hk
 have hnone:ρ (st.np+d)=none:=h.ae _ _ hf
 refine⟨_,_,_,h.new (hv:=.slice (some ⟨w.heap.size,0,none⟩) l.length cap) hf (cg.alloc (fun _=>False) w (.cells jD e)) (fun b hb=>by simp only[bq] at hb;split at hb <;> simp only[cG,reduceCtorEq] at hb;omega)
  (fun X' hX=>?_) (HC _ _) (by simp),.one (c:=.row (st.np+d)) (by simp[ib,ax]) rfl,hk1⟩
 have hm':l.length*n≤cap*n:=EV _ hc
 exact⟨hn,hu,⟨jD.toList.take (l.length*n),rowAt.jo (b:=0) ⟨by rw[nM,show jD.toList.length=cap*n from hsz];omega,.inr ⟨w.heap.size,cap,jD,rfl,HE _,heap_alloc_new w _,hc,hm,hsz,rfl⟩⟩,
  hl.step (cg.alloc (fun _=>False) _ _) (fun _ hb=>False.elim hb) hX⟩,fun hc=>by cases hc⟩
theorem C1:∀(c n:Nat) (l:List T),(E5 c n l).length=c
 | 0,_,_=>rfl
 | c+1,n,l=>by simp[E5,C1 c n]
theorem SW:∀(c n:Nat) (l:List T),l.length=c*n→0<n→(∀t∈l,∀m,t≠.agg m)→dt n (E5 c n l)∧flat (E5 c n l)=l
 | 0,n,l,h,_,_=>by
  have:l=[]:=uK (by simpa using h)
  subst this
  exact⟨.nil n,rfl⟩
 | c+1,n,l,h,hn,ha=>by
  rw[tM,ZR] at h
  obtain⟨e1,e2⟩:=SW c n (l.drop n) (by simp;omega) hn (fun t ht=>ha t (T2 ht))
  have hc:=LC (n:=n) (ts:=l.take n) (by simp;omega) (fun t ht=>ha t (H5 ht))
  refine⟨fun t ht=>?_,?_⟩
  ·simp only[E5,cJ] at ht
   rcases ht with rfl | ht
   ·rw[hc];simp;omega
   ·exact e1 t ht
  ·simp only[E5,qW,hc,e2,List.take_append_drop]
theorem BS{α:Type}(c:Nat)(l:List α):((List.range c).flatMap fun _=>l).length=c*l.length:=by
 induction c with
 | zero=>simp
 | succ c ih=>rw[UA,ZS,tL,ih];simp[tM]
theorem BA{α:Type}(c:Nat)(l:List α)(i:Nat)(hi:i<c*l.length):((List.range c).flatMap fun _=>l)[i]?=l[i%l.length]?:=by
 induction c with
 | zero=>simp at hi
 | succ c ih=>
  rw[UA,ZS,rR,BS]
  split
  ·exact ih (by assumption)
  ·rename_i hlt
   rw[tM,ZR] at hi
   have:i%l.length=i-c*l.length:=by
    have h1:i=(i-c*l.length)+l.length*c:=by have:=Nat.mul_comm c l.length;omega
    conv=>lhs;rw[h1]
    rw[Nat.add_mul_mod_self_left,Nat.mod_eq_of_lt (by omega)]
   simp[this]
theorem Jj(c:Nat)(x:T):flat (List.replicate c x)=(List.range c).flatMap fun _=>x.cells:=by
 induction c with
 | zero=>rfl
 | succ c ih=>rw[List.replicate_succ',xS,ih,UA,ZS];simp[flat]
theorem PA(z:Array Value)(n i:Nat)(hi:i<n)(hz:0<z.size):(madeCells z n).toList[i]?=z.toList[i%z.size]?:=by
 have hlt:i%z.size<z.size:=Nat.mod_lt _ hz
 unfold madeCells
 rw[MH,Array.getElem?_map,Array.getElem?_range,aC hi,fA,MH,getElem!_pos z _ hlt,uV hlt]
theorem Ou{z:Array Value}{ts:List T}{c m:Nat}(h:dp w X ts z.toList)(hz:0<z.size)(hm:c*z.size≤m):dp w X ((List.range c).flatMap fun _=>ts) ((madeCells z m).toList.take (c*z.size)):=by
 have hl:=h.1
 rw[mO] at hl
 refine⟨by rw[nM,mO,size_madeCells,BS,←hl,OQ hm],fun i t y h1 h2=>?_⟩
 rw[pT] at h2
 split at h2
 ·rename_i hi
  rw[PA z m i (by omega) hz] at h2
  rw[BA c ts i (by rw[hl] at hi;exact hi),←hl] at h1
  exact h.2 _ t y h1 h2
 ·cases h2
theorem R1{dst:Option Nat}{t:TypeId}{l c:D}{vl vc:Value}{k:St→D→Option R}(h:Rel w0 F Xc ρ0 ρ st a w)(hl:bc w (XB st.ae ρ Xc) ρ l vl)(hc:bc w (XB st.ae ρ Xc) ρ c vc)
 (hk:rV P st dst t l c k=some r):
 ∃y w' ρ' st' d,(Instr.makeSlice t vl vc).run P w=.ok y w'∧Rel w0 F Xc ρ0 ρ' st' a w'∧bc w' (XB st'.ae ρ' Xc) ρ' d y∧k st' d=some r:=by
 unfold rV at hk
 split at hk
 case h_2=>cases hk
 rename_i e ht
 split at hk
 case h_2=>cases hk
 rename_i i hi
 split at hk
 case h_2=>cases hk
 rename_i z hz
 split at hk
 case h_2=>cases hk
 rename_i cs hcs
 split at hk
 case h_2=>cases hk
 rename_i ts hts
 split at hk
 case isFalse=>cases hk
 rename_i hcond
 obtain⟨hlen,hpos⟩:=hcond
 obtain⟨k1,l,rfl,hk1⟩:=sL hl hk
 obtain⟨k2,c,rfl,hk2⟩:=sL hc hk1
 obtain⟨p,hp,hk3⟩:=bO hk2
 clear hk hk1 hk2
 unfold vA at hp
 split at hp
 case isFalse=>cases hp
 rename_i hcon
 obtain⟨c1,c2,c3,c4⟩:=hcon
 cases hp
 obtain⟨hz1,hz2⟩:=CC (w:=w) (X:=XB st.ae ρ Xc) (ρ:=ρ) hcs
 obtain⟨t1,t2,t3⟩:=O6 hz1 hts
 have hmt:=LC (n:=i.size) (ts:=ts) hlen t3
 have hzl:z.cells.size=i.size:=by have:=t2.1;rw[mO] at this;omega
 have hrun:=run_make (P:=P) w t e i z ht hi hz k1 k2 l c c1 c2 c3 (by simp only[maxLen] at c4;omega)
 simp only[EL] at hk3
 have hmul:l.toNat*i.size≤c.toNat*i.size:=EV _ (by omega)
 obtain⟨ρ',st',key,hR,hd,hk4⟩:=LJ (cap:=c.toNat) (jD:=madeCells z.cells (c.toNat*i.size)) h hpos (fun t ht=>by rw[OT ht,hmt,hlen]) (by simp;omega) (by omega) (size_madeCells _ _) (by
  rw[Jj,hmt,OU,←hzl]
  exact Ou t2 (by omega) (by rw[hzl];exact hmul)) hk3
 rw[OU] at hd
 exact⟨_,_,ρ',st',_,hrun,hR,hd,hk4⟩
theorem Aa{dst:Option Nat}{t:TypeId}{l c:D}{vl vc:Value}{k:St→D→Option R}(h:Rel w0 F Xc ρ0 ρ st a w)(hl:bc w (XB st.ae ρ Xc) ρ l vl)(hc:bc w (XB st.ae ρ Xc) ρ c vc)
 (hk:A9 P st dst t l c k=some r):
 ∃y w' ρ' st' d,(Instr.makeSlice t vl vc).run P w=.ok y w'∧Rel w0 F Xc ρ0 ρ' st' a w'∧bc w' (XB st'.ae ρ' Xc) ρ' d y∧k st' d=some r:=by
 unfold A9 at hk
 split at hk
 case h_2=>cases hk
 rename_i e ht
 split at hk
 case h_2=>cases hk
 rename_i i e2 hi he2
 split at hk
 case h_2=>cases hk
 rename_i n hz hn2
 split at hk
 case isFalse=>cases hk
 rename_i hcond
 obtain⟨hsz,hpos⟩:=hcond
 obtain⟨k1,l,rfl,hk1⟩:=sL hl hk
 obtain⟨k2,c,rfl,hk2⟩:=sL hc hk1
 obtain⟨p,hp,hk3⟩:=bO hk2
 clear hk hk1 hk2
 unfold vA at hp
 split at hp
 case isFalse=>cases hp
 rename_i hcon
 obtain⟨c1,c2,c3,c4⟩:=hcon
 cases hp
 have hrun:=run_make (P:=P) w t e i (.slice none 0 0) ht hi hz k1 k2 l c c1 c2 c3 (by simp only[maxLen] at c4;omega)
 simp only[EL] at hk3
 obtain⟨d,_,hf,hk4⟩:=CW hk3
 rw[hsz,HF] at hrun
 have hone:(Value.slice none 0 0).cells=#[.slice none 0 0]:=rfl
 have hms:(madeCells #[Value.slice none 0 0] c.toNat).size=c.toNat:=size_madeCells _ _
 have hget:∀j,j<c.toNat→(madeCells #[Value.slice none 0 0] c.toNat).toList[j]?=some (.slice none 0 0):=fun j hj=>by
  rw[PA _ _ _ hj (by decide)]
  have:j%(#[Value.slice none 0 0]:Array Value).size=0:=Nat.mod_one j
  rw[this];rfl
 have hlc:l.toNat≤c.toNat:=by omega
 have hcm:c.toNat≤maxLen:=by omega
 refine⟨_,_,_,_,_,hrun,h.mi (hv:=.tuple (.slice (some ⟨w.heap.size,0,none⟩) l.toNat c.toNat::List.replicate l.toNat (.slice none 0 0)).toArray) (o:=.rr none e e2 n (List.replicate l.toNat [])) hf
  (cg.alloc (fun _=>False) w (.cells (madeCells #[.slice none 0 0] c.toNat) e)) (fun b hb=>?_) (fun X' hX=>?_) (HC _ _) (by simp),.one (c:=.rk (st.np+d)) ⟨(.slice (some ⟨w.heap.size,0,none⟩) l.toNat c.toNat::List.replicate l.toNat (.slice none 0 0)).toArray,by simp[ax],rfl⟩ rfl,hk4⟩
 ·rcases hb with hb | ⟨vs,hvs,y,hy,hyb⟩
  ·cases hb
  ·cases hvs
   simp only[cJ] at hy
   rcases hy with rfl | hy
   ·simp only[bq] at hyb;split at hyb <;> simp only[cG,reduceCtorEq] at hyb;omega
   ·rw[OT hy] at hyb;cases hyb
 ·have hnilb:∀(j:Nat) y b,(List.replicate l.toNat (Value.slice none 0 0))[j]?=some y→¬bq y=some b:=fun j y b hj hb=>by
   rw[OT (mM hj)] at hb;cases hb
  refine⟨hpos,.slice (some ⟨w.heap.size,0,none⟩) l.toNat c.toNat,List.replicate l.toNat (.slice none 0 0),(madeCells #[.slice none 0 0] c.toNat).toList.take (l.toNat*1),rfl,?_,by simp,fun j y z q1 q2=>?_,fun j m y q1 q2=>?_,fun j1 j2 y z b q1 q2 q3 q4=>?_⟩
  ·rw[OU]
   exact rowAt.jo (b:=0) ⟨by rw[nM,mO,hms];omega,.inr ⟨w.heap.size,c.toNat,_,rfl,HE _,heap_alloc_new w _,hlc,hcm,hms.trans (HF _).symm,rfl⟩⟩
  ·have hj:j<l.toNat:=by have:=(dL.1 q2).1;simpa using this
   rw[pT,aC (by omega),hget j (by omega)] at q1
   cases q1
   rw[KZ,aC hj] at q2
   cases q2
   exact⟨rfl,fun _=>rfl⟩
  ·have e1:=OT (mM q1)
   have e3:=OT (mM q2)
   subst e1;subst e3
   exact⟨.nil n,[],rowAt.nil _ _ _,⟨rfl,fun i t y h1 _=>by simp[flat] at h1⟩⟩
  ·cases j1 with
   | succ j1=>exact(hnilb j1 y b (by simpa using q1) q3).elim
   | zero=>cases j2 with
    | succ j2=>exact(hnilb j2 z b (by simpa using q2) q4).elim
    | zero=>rfl
theorem M9{dst:Option Nat}{t:TypeId}{len:Nat}{parts:List (Nat×D)}{vparts:Array (Nat×Value)}{k:St→D→Option R}(h:Rel w0 F Xc ρ0 ρ st a w)(hlen:parts.length=vparts.toList.length)
 (hp:∀(i:Nat) p q,parts[i]?=some p→vparts.toList[i]?=some q→p.1=q.1∧bc w (XB st.ae ρ Xc) ρ p.2 q.2) (hk:oD P st dst t len parts k=some r):
 ∃y w' ρ' st' d,(Instr.buildSlice t len vparts).run P w=.ok y w'∧Rel w0 F Xc ρ0 ρ' st' a w'∧bc w' (XB st'.ae ρ' Xc) ρ' d y∧k st' d=some r:=by
 unfold oD at hk
 split at hk
 case h_2=>cases hk
 rename_i e ht
 split at hk
 case h_2=>cases hk
 rename_i i hi
 split at hk
 case h_2=>cases hk
 rename_i z hz
 split at hk
 case h_2=>cases hk
 rename_i cs hcs
 split at hk
 case isFalse=>cases hk
 rename_i hcond
 obtain⟨hcl,hpos,hlpos,hmax⟩:=hcond
 split at hk
 case h_2=>cases hk
 rename_i l hl
 split at hk
 case h_2=>cases hk
 rename_i q hfq
 obtain⟨objs',l'⟩:=q
 dsimp only at hk
 split at hk
 case h_2=>cases hk
 rename_i tys htys
 obtain⟨hz1,hz2⟩:=CC (w:=w) (X:=XB st.ae ρ Xc) (ρ:=ρ) hcs
 have hzl:z.cells.size=i.size:=by have:=hz1.1;rw[mO] at this;omega
 have hinit:bw w (XB st.ae ρ Xc) ρ ((List.range len).flatMap fun _=>cs) (madeCells z.cells (len*i.size)).toList:=by
  refine⟨by rw[mO,size_madeCells,BS,hcl],fun j c y h1 h2=>?_⟩
  have hj:j<len*i.size:=by
   have:=(dL.1 h2).1
   rw[mO,size_madeCells] at this;exact this
  rw[PA z.cells _ j hj (by omega)] at h2
  rw[BA len cs j (by rw[hcl];exact hj),hcl,←hzl] at h1
  exact hz1.2 _ c y h1 h2
 obtain⟨ys',e1,e2⟩:=JG (fun q=>some (q*i.size,i.size)) parts vparts.toList _ _ l hinit hlen hp hl
 obtain⟨h,e2⟩:=UY h e2 hfq
 obtain⟨ts,hk,t1,t2,t3⟩:=GK e2 hk
 have hsize:ys'.size=len*i.size:=by
  have hfill:∀(place:Nat→Option (Nat×Nat)) (vp:List (Nat×Value)) (ys zs:Array Value),Instr.fill place ys vp=some zs→zs.size=ys.size:=by
   intro place vp
   induction vp with
   | nil=>intro ys zs h;simp only[Instr.fill,cG] at h;rw[h]
   | cons p vp ih=>
    intro ys zs h
    obtain⟨pi,pv⟩:=p
    simp only[Instr.fill] at h
    split at h
    ·cases h
    ·rename_i off size hpl
     split at h
     ·cases h
     ·rename_i hcnd
      have:=ih _ _ h
      rw[this,←Array.foldl_toList]
      have hf:=WT pv.cells.toList 0 off ys (by
       simp only[uW,oB,bE,DW,Decidable.not_not] at hcnd
       rw[mO];omega)
      rw[Array.toList_zipIdx]
      have hl':=fG List.length hf
      rw[mO] at hl'
      rw[show (fun(cs:Array Value) (x:Value×Nat)=>match x with | (c,j)=>cs.setIfInBounds (off+j) c)=fun cs x=>cs.setIfInBounds (off+x.2) x.1 from rfl,hl']
      simp only[uW,oB,bE,DW,Decidable.not_not] at hcnd
      simp;omega
  rw[hfill _ _ _ _ e1,size_madeCells]
 have htl:ts.length=len*i.size:=by have:=t2.1;rw[mO] at this;omega
 obtain⟨u1,u2⟩:=SW len i.size ts htl hpos.1 t3
 have hlen':len≤len*i.size:=Nat.le_mul_of_pos_right _ hpos.1
 obtain⟨ρ',st',key,hR,hd,hk4⟩:=LJ (cap:=len) (jD:=ys') (e:=e) h hpos u1 (by rw[C1];exact gB _) (by simp only[maxLen];omega) hsize (by
  rw[u2,C1,H6 (by rw[mO];omega)]
  exact t2) hk
 rw[C1] at hd
 refine⟨_,_,ρ',st',_,?_,hR,hd,hk4⟩
 unfold Instr.buildSlice
 have hne:len*i.size≠0:=by have:=Nat.mul_pos hlpos hpos.1;omega
 simp only[Sem.run_bind,run_underlying ht,Result.andThen_ok,iL (show I2 P e=some i.size by simp[I2,hi])]
 rw[aA (by omega),aA hne]
 simp only[Sem.run_bind,xM hi hz,Result.andThen_ok,Sem.run_pure]
 rw[show (Array.range (len*i.size)).map (fun x=>z.cells[x%z.cells.size]!)=madeCells z.cells (len*i.size) from rfl,e1]
 simp[newRow]
theorem PB{dst:Option Nat}{t:TypeId}{len:Nat}{parts:List (Nat×D)}{vparts:Array (Nat×Value)}{k:St→D→Option R}(h:Rel w0 F Xc ρ0 ρ st a w)(hlen:parts.length=vparts.toList.length)
 (hp:∀(i:Nat) p q,parts[i]?=some p→vparts.toList[i]?=some q→p.1=q.1∧bc w (XB st.ae ρ Xc) ρ p.2 q.2) (hk:kN P st dst t len parts k=some r):
 ∃y w' ρ' st' d,(Instr.buildSlice t len vparts).run P w=.ok y w'∧Rel w0 F Xc ρ0 ρ' st' a w'∧bc w' (XB st'.ae ρ' Xc) ρ' d y∧k st' d=some r:=by
 unfold kN at hk
 split at hk
 ·rename_i hc
  obtain⟨rfl,hpe⟩:=hc
  have hpe':parts=[]:=K5.1 hpe
  subst hpe'
  have hv:vparts=#[]:=ZQ.1 (uK hlen.symm)
  subst hv
  split at hk
  case h_2=>cases hk
  rename_i e ht
  split at hk
  case h_2=>cases hk
  rename_i n hn
  split at hk
  case isFalse=>cases hk
  rename_i hpos
  obtain⟨ρ',st',key,hR,hd,hk4⟩:=LJ (cap:=0) (jD:=#[]) (e:=e) (l:=[]) h hpos (.nil n) (gB _) (HE _) (by simp) ⟨by simp[flat],fun i t y h1 _=>by simp[flat] at h1⟩ hk
  refine⟨_,_,ρ',st',_,?_,hR,hd,hk4⟩
  unfold Instr.buildSlice
  simp[run_underlying ht,iL hn,newRow,Instr.fill]
  rw[show (Array.range 0).map (fun _=>(default:Value))=#[] from ZT (by simp[Array.toList_range])]
 ·exact M9 h hlen hp hk
end
section
variable {R:Type} {P:Program} {w0 w w':World} {F Xc X:Nat→Prop} {ρ0:cq} {ρ:nP} {st:St} {a:Act} {r:R}
theorem U9{t:TypeId}{x:D}{vx:Value}{k:St→D→Option R}(h:Rel w0 F Xc ρ0 ρ st a w)(hx:bc w (XB st.ae ρ Xc) ρ x vx)(hk:GL P st t x k=some r):
 ∃y st' d,(Instr.sliceAt t vx none none none).run P w=.ok y w∧Rel w0 F Xc ρ0 ρ st' a w∧bc w (XB st'.ae ρ Xc) ρ d y∧k st' d=some r:=by
 unfold GL at hk
 cases hk
theorem Gi{t:TypeId}{x:D}{v:Value}{lo hi mx:Option D}{vlo vhi vmx:Option Value}{k:St→D→Option R}(hR:Rel w0 F Xc ρ0 ρ st a w)(h:bc w (XB st.ae ρ Xc) ρ x v)(hlo:MR w (XB st.ae ρ Xc) ρ lo vlo)(hhi:MR w (XB st.ae ρ Xc) ρ hi vhi)
 (hmx:MR w (XB st.ae ρ Xc) ρ mx vmx) (hk:AD P st t x lo hi mx k=some r):∃y st' d,(Instr.sliceAt t v vlo vhi vmx).run P w=.ok y w∧Rel w0 F Xc ρ0 ρ st' a w∧bc w (XB st'.ae ρ Xc) ρ d y∧k st' d=some r:=by
 unfold AD at hk
 split at hk
 ·split at hk
  case isFalse=>cases hk
  rename_i hn
  obtain⟨h1,h2,h3⟩:=hn
  have e1:vlo=none:=by
   cases lo with
   | none=>cases vlo with | none=>rfl | some v=>exact hlo.elim
   | some d=>cases h1
  have e2:vhi=none:=by
   cases hi with
   | none=>cases vhi with | none=>rfl | some v=>exact hhi.elim
   | some d=>cases h2
  have e3:vmx=none:=by
   cases mx with
   | none=>cases vmx with | none=>rfl | some v=>exact hmx.elim
   | some d=>cases h3
  subst e1;subst e2;subst e3
  exact U9 hR h hk
 ·obtain⟨y,d,q1,q2,q3⟩:=Fp (P:=P) (w:=w) hR h hlo hhi hmx hk
  exact⟨y,st,d,q1,hR,q2,q3⟩
end
section
variable {R:Type} (P:Program)
def SX{R:Type}(P:Program)(st:St)(src dst:TypeId)(x:D)(k:D→Option R):Option R:=none
end
section
variable {R:Type} {P:Program} {w0 w:World} {F Xc:Nat→Prop} {ρ0:cq} {ρ:nP} {st:St} {a:Act} {r:R}
theorem Jk{src dst:TypeId}{x:D}{v:Value}{k:D→Option R}(hR:Rel w0 F Xc ρ0 ρ st a w)(h:bc w (XB st.ae ρ Xc) ρ x v)(hk:SX P st src dst x k=some r):
 ∃y w' d,(convert src dst v).run P w=.ok y w'∧cg (fun _=>False) w w'∧bc w' (XB st.ae ρ Xc) ρ d y∧k d=some r:=by
 unfold SX at hk
 cases hk
end
section
def SS{R:Type}(P:Program)(st:St)(t:TypeId)(s x:D)(k:St→D→Option R):Option R:=none
end
section
variable {R:Type} {P:Program} {w0 w:World} {F Xc:Nat→Prop} {ρ0:cq} {ρ:nP} {st:St} {a:Act} {r:R}
theorem Iw{t u ty:TypeId}{s x:D}{vs vx:Value}{k:St→D→Option R}(h:Rel w0 F Xc ρ0 ρ st a w)(hs:bc w (XB st.ae ρ Xc) ρ s vs)(hx:bc w (XB st.ae ρ Xc) ρ x vx)
 (hk:SS P st t s x k=some r):
 ∃y w' st' d,(Builtin.copy_ #[t,u] ty #[vs,vx]).run P w=.ok y w'∧Rel w0 F Xc ρ0 ρ st' a w'∧bc w' (XB st'.ae ρ Xc) ρ d y∧k st' d=some r:=by
 unfold SS at hk
 cases hk
end
@[irreducible] def R3{α:Type}(l:List α):Bool:=l.isEmpty
def Ss:D:=.s (.c .fe)
section
variable {R:Type} (P:Program)
def Ah:D→Bool
 | .s (.c (.t (.v (.slice none 0 0))))=>true
 | _=>false
def Ai(st:St)(eq:Bool)(c:C)(k:D→Option R):Option R:=match c with
 | .t (.v (.slice none 0 0))=>k (dB eq)
 | .t (.sl n l)=>if n<1000000000 then (bif R3 l then k Ss else k (dB (!eq))) else none
 | .row key=>match st.ae[key]? with
  | some (.row _ _ _ es)=>bif R3 es then k Ss else k (dB (!eq))
  | _=>none
 | _=>none
def R4(st:St)(op:BinOp)(ty yty:TypeId)(x y:D)(k:D→Option R):Option R:=match P.underlying ty with
 | some (.slice _)=>if Ah y=true then zN x fun c=>if op=.eql then Ai st true c k else if op=.neq then Ai st false c k else none else none
 | _=>Ff P op ty yty x y k
end
section
variable {R:Type} {P:Program} {w0 w:World} {F Xc:Nat→Prop} {ρ0:cq} {ρ:nP} {st:St} {a:Act} {r:R}
theorem PM(t e:TypeId)(a:Option Addr)(l c:Nat)(h:P.underlying t=some (.slice e)):(Op.equal t (.slice a l c) (.slice none 0 0)).run P w=.ok a.isNone w:=by
 have key:∀d:Nat,(Op.equalIn (d+1) t (.slice a l c) (.slice none 0 0)).run P w=.ok a.isNone w:=fun d=>by
  cases a <;> simp[Op.equalIn,run_underlying h]
 exact key 9999
theorem Fz{X:Nat→Prop}{d:D}{v:Value}(h:bc w X ρ d v)(hd:Ah d=true):v=.slice none 0 0:=by
 unfold Ah at hd
 split at hd
 ·rcases h with h | ⟨h,_⟩
  ·cases h
  ·exact Rd.cr h
 ·cases hd
theorem Cs{eq:Bool}{c:C}{v:Value}{k:D→Option R}(hR:Rel w0 F Xc ρ0 ρ st a w)(hc:cm w (XB st.ae ρ Xc) ρ c v)(hk:Ai st eq c k=some r):
 ∃ad l q d,v=.slice ad l q∧k d=some r∧bc w (XB st.ae ρ Xc) ρ d (.bool (ad.isNone==eq)):=by
 have fe:∀b:Bool,bc w (XB st.ae ρ Xc) ρ Ss (.bool b):=fun b=>.one (c:=.fe) ⟨b,rfl⟩ rfl
 have nn:∀(x:Addr),bc w (XB st.ae ρ Xc) ρ (dB (!eq)) (.bool ((some x).isNone==eq)):=fun x=>by
  cases eq <;> exact .bool _
 unfold Ai at hk
 split at hk
 ·rcases hc with hc | ⟨hc,_⟩
  ·cases hc
  ·have:=Rd.cr hc
   subst this
   exact⟨none,0,0,_,rfl,hk,by cases eq <;> exact .bool _⟩
 ·rename_i n l
  split at hk
  case isFalse=>cases hk
  rename_i hnm
  rcases hc with hc | ⟨hc,_⟩
  ·cases hc
  ·unfold R3 at hk
   have hc':Rd w (XB st.ae ρ Xc) (.sl n l) v:=hc
   cases hc' with
   | mp _ _ _ _ _ hbig=>omega
   | nil=>exact⟨none,0,0,_,rfl,hk,fe _⟩
   | sl _ _ ad c ys=>
    cases hl:l.isEmpty with
    | true=>rw[hl] at hk;exact⟨some ad,_,c,_,rfl,hk,fe _⟩
    | false=>rw[hl] at hk;exact⟨some ad,_,c,_,rfl,hk,nn ad⟩
 ·rename_i key
  split at hk
  ·rename_i fz e n es hob
   rcases hc with hc | ⟨hc,_⟩
   ·cases hc
   ·obtain⟨hv,e1,e2⟩:=hR.ae key _ hob
    have hcc:ρ key=some v:=hc
    rw[hcc] at e1
    cases e1
    unfold R3 at hk
    rcases pG e2 with⟨rfl,rfl⟩ | ⟨a0,cap,rfl,_⟩
    ·exact⟨none,0,0,_,rfl,hk,fe _⟩
    ·cases hl:es.isEmpty with
     | true=>rw[hl] at hk;exact⟨some a0,_,cap,_,rfl,hk,fe _⟩
     | false=>rw[hl] at hk;exact⟨some a0,_,cap,_,rfl,hk,nn a0⟩
  ·cases hk
 ·cases hk
theorem Oy{op:BinOp}{ty yty:TypeId}{x y:D}{xo yo:Operand}{vx vy:Value}{k:D→Option R}(hR:Rel w0 F Xc ρ0 ρ st a w)(hx:bc w (XB st.ae ρ Xc) ρ x vx)(hy:bc w (XB st.ae ρ Xc) ρ y vy)(hk:R4 P st op ty yty x y k=some r):
 ∃d v,(do eqGuard op ty xo yo vx vy;binOp op ty vx vy:Sem Value).run P w=.ok v w∧bc w (XB st.ae ρ Xc) ρ d v∧k d=some r:=by
 unfold R4 at hk
 split at hk
 ·rename_i e hu
  split at hk
  case isFalse=>cases hk
  rename_i hn
  have:=Fz hy hn
  subst this
  obtain⟨c,rfl,hc,hk1⟩:=uX hx hk
  split at hk1
  ·rename_i ho
   subst ho
   obtain⟨ad,l,q,d,rfl,hk2,hd⟩:=Cs hR hc hk1
   refine⟨d,_,?_,hd,hk2⟩
   simp only[Sem.run_bind,EZ (a:=.slice ad l q) (by simp) (by simp),Result.andThen_ok]
   simp[binOp,PM ty e ad l q hu]
  ·split at hk1
   ·rename_i ho
    subst ho
    obtain⟨ad,l,q,d,rfl,hk2,hd⟩:=Cs hR hc hk1
    refine⟨d,_,?_,hd,hk2⟩
    simp only[Sem.run_bind,EZ (a:=.slice ad l q) (by simp) (by simp),Result.andThen_ok]
    simp[binOp,PM ty e ad l q hu]
   ·cases hk1
 ·exact Om hx hy hk
end
structure me where
 go:{R:Type}→St→Option Nat→List D→(St→D→Option R)→Option R
structure Ext where
 go:{R:Type}→List D→(D→Option R)→Option R
structure Callee where
 rows:List (Option (TypeId×Nat)):=[]
 call:{R:Type}→List S1→List O→(List S1→List O→Option R)→Option R
 inl:Option me:=none
 ext:Option Ext:=none
 quiet:List Nat:=[]
 loose:List Nat:=[]
 /-- boxes to which boxes that are handed over point are handed over too -/
 deep:Bool:=false
def ey(w:World)(X:Nat→Prop)(ρ:nP)(rs:List S1)(v:Value):Prop:=match rs with
 | [s]=>en w X ρ s v
 | l=>∃vs:Array Value,v=.tuple vs∧cz w X ρ l vs.toList
def Ve(w:World)(Xc:Nat→Prop)(ρ:nP)(po:List O)(rs:List S1)(po':List O)(e:Ending)(w':World):Prop:=
 ∃v ρ',e=.returned v∧cg (AZ po ρ) w w'∧(∀k,k<po.length→ρ' k=ρ k)∧po.length≤po'.length ∧
  (∀(k:Nat) o,po'[k]?=some o→Uv w' (XB po' ρ' Xc) ρ' k o)∧Wy po' ρ'∧(∀k b,Has po' ρ' k b→(∃k',Has po ρ k' b)∨w.heap.size≤b)∧ey w' (XB po' ρ' Xc) ρ' rs v
def Fq(P:Program)(g:Nat)(k:IntKind):Prop:=∃t zero,g<P.globals.size∧((begin P (fun _ _=>0) default).world.heap[g]?).bind Obj.row?=some (zero,t)∧zero.size=1∧P.buildable t=true ∧
 P.cellTypes P.depth t=some [t]∧P.underlying t=some (.int k)
def Good(P:Program)(w:World)(F:Nat→Prop):Prop:=∀g k,Fq P g k→¬F g∧∃m,w.cell? ⟨g,0,none⟩=some (.int k m)
theorem Good.call{P:Program}{w0 w:World}{F F':Nat→Prop}(hG:Good P w0 F)(hfr:cg F w0 w)(h1:∀b,F' b→w0.heap.size≤b∨F b):Good P w F':=
 fun g k hg=>let ⟨a,m,hm⟩:=hG g k hg
  ⟨fun hb=>(h1 g hb).elim (fun hh=>Nat.lt_irrefl _ (KX (World.block_lt_of_cell? w0 _ hm) hh)) a,m,hfr.cell hm a⟩
def Jl(P:Program)(f:FuncId)(args:List S1)(po:List O)(rs:List S1)(po':List O):Prop:=
 ∀(w:World) (Xc:Nat→Prop) (ρ:nP) (vals:List Value),(∀(k:Nat) o,po[k]?=some o→Uv w (XB po ρ Xc) ρ k o)→Wy po ρ→(∀b,Xc b→b<w.heap.size)→(∀b,AZ po ρ b→¬Xc b)→Good P w (AZ po ρ)→cz w (XB po ρ Xc) ρ args vals →
  Calls P f vals.toArray w (Ve w Xc ρ po rs po')
def me.OK(P:Program)(f:FuncId)(I:me):Prop:=
 ∀{R:Type} {w0 w:World} {F Xc:Nat→Prop} {ρ0:cq} {ρ:nP} {st:St} {a:Act} {r:R} (dst:Option Nat) (ds:List D) (vals:List Value) (k:St→D→Option R),Good P w0 F→Rel w0 F Xc ρ0 ρ st a w→ds.length=vals.length →
  (∀(i:Nat) d v,ds[i]?=some d→vals[i]?=some v→bc w (XB st.ae ρ Xc) ρ d v)→I.go st dst ds k=some r →
  Calls P f vals.toArray w fun e w'=>∃v ρ' st' d,e=.returned v∧Rel w0 F Xc ρ0 ρ' st' a w'∧bc w' (XB st'.ae ρ' Xc) ρ' d v∧k st' d=some r
def Callee.qc(P:Program)(f:FuncId)(A:Callee):Prop:=
 ∀{R:Type} (args:List S1) (po:List O) (k:List S1→List O→Option R) (r:R),A.call args po k=some r→∃rs po',k rs po'=some r∧Jl P f args po rs po'
def Ext.OK(P:Program)(f:FuncId)(I:Ext):Prop:=
 ∀{R:Type} {w:World} {X:Nat→Prop} {ρ:nP} {r:R} (ds:List D) (vals:List Value) (k:D→Option R),ds.length=vals.length→(∀(i:Nat) d v,ds[i]?=some d→vals[i]?=some v→bc w X ρ d v)→I.go ds k=some r →
  ∃y d,(callFunc f vals.toArray).run P w=.ok (.value y) w∧bc w X ρ d y∧k d=some r
def Callee.OK(P:Program)(f:FuncId)(A:Callee):Prop:=A.qc P f∧(∀I,A.inl=some I→I.OK P f)∧∀I,A.ext=some I→I.OK P f
def E7(P:Program)(f:FuncId):Prop:=∃fn,P.funcs[f]?=some fn∧fn.body.isSome=true∧(fn.name == "runtime.NumGoroutine")=false
def jc(P:Program)(Γ:FuncId→Option Callee):Prop:=∀f A,Γ f=some A→(A.ext=none→E7 P f)∧A.OK P f
def Fr:List D→Option (List S1)
 | []=>some []
 | .s s::l=>(Fr l).map (s::·)
 | .eg _::_=>none
def S1.list:S1→List C
 | .c x=>[x]
 | .agg x=>x
def C.ks:C→List Nat
 | .box k _=>[k]
 | .fn _ caps=>caps.map (·.1)
 | _=>[]
def Oe:List Nat→List Nat→List Nat
 | acc,[]=>acc.reverse
 | acc,k::l=>if acc.contains k then Oe acc l else Oe (k::acc) l
def MS(l:List S1):List Nat:=Oe [] (l.flatMap fun s=>s.list.flatMap C.ks)
def Sm:Option O→List Nat
 | some (.box l)=>l.flatMap C.ks
 | _=>[]
def Sn(ae:List O)(ks:List Nat):List Nat:=ks.flatMap fun k=>Sm ae[k]?
def xW(deep:Bool)(ae:List O)(l:List S1):List Nat:=bif deep then Oe [] (MS l++Sn ae (MS l)) else MS l
def IH(ks:List Nat)(k:Nat):Option Nat:=ks.idxOf? k
def PC(st:St)(ks:List Nat):C→Option C
 | .t x=>some (.t x)
 | .row key=>match st.ae[key]? with
  | some (.row _ _ n es)=>some (.t (.sl n es))
  | some (.mp _ _ n es)=>some (.t (.sl n es))
  | _=>none
 | .box k j=>(IH ks k).map fun i=>.box i j
 | .fn f caps=>(rT (caps.map fun p=>(IH ks p.1).map fun i=>(i,p.2))).map (.fn f)
 | .self t=>some (.self t)
 | .cut key n lo len _=>match st.ae[key]? with
  | some (.row _ _ n' es)=>if n'=n then some (.t (.sl n (oC es lo len))) else none
  | _=>none
 | .top=>some .top
 | _=>none
def C2:C→Bool
 | .t _=>true
 | _=>false
def E8:C→Bool
 | .t (.v _)=>true
 | _=>false
def JK:List S1→D
 | [s]=>.s s
 | l=>.eg l
def PD(st:St)(m:TypeId×Nat):C→Option (Option Nat×O)
 | .row key=>match st.ae[key]? with
  | some (.row false e n l)=>if e=m.1∧n=m.2 then some (some key,.row false e n l) else none
  | some (.mp false e n l)=>if e=m.1∧n=m.2 then some (some key,.mp false e n l) else none
  | _=>none
 | .t (.v (.slice none 0 0))=>if 0<m.2∧m.2<1000000000 then some (none,.row false m.1 m.2 []) else none
 | _=>none
def rI(st:St)(ks:List Nat):Nat→List (Option (TypeId×Nat))→List C→Option (List C×List (Option Nat×O))
 | _,_,[]=>some ([],[])
 | j,ms,c::cs=>match ms.headD none with
  | some m=>match PD st m c,rI st ks (j+1) ms.tail cs with
   | some p,some q=>some (.row j::q.1,p::q.2)
   | _,_=>none
  | none=>match PC st ks c,rI st ks j ms.tail cs with
   | some c',some q=>some (c'::q.1,q.2)
   | _,_=>none
def lP:List (Option (TypeId×Nat))→List C→List Nat
 | _,[]=>[]
 | ms,c::cs=>match ms.headD none with
  | some _=>lP ms.tail cs
  | none=>C.rs c++lP ms.tail cs
def zA:List S1→List C→List S1
 | [],_=>[]
 | .c _::l,cs=>.c (cs.headD .top)::zA l cs.tail
 | .agg a::l,cs=>.agg (cs.take a.length)::zA l (cs.drop a.length)
def jZ:List (List C)→List C→List O
 | [],_=>[]
 | a::l,cs=>.box (cs.take a.length)::jZ l (cs.drop a.length)
def CD(ae:List O)(k:Nat):Option (List C):=match ae[k]? with
 | some (.box l)=>some l
 | _=>none
def Ov(km:List (Option Nat))(p:Nat×Nat):Option (Nat×Nat):=match km[p.1]? with
 | some (some k)=>some (k,p.2)
 | _=>none
def AF(km:List (Option Nat)):C→Option C
 | .t x=>some (.t x)
 | .box i j=>match km[i]? with
  | some (some k)=>some (.box k j)
  | _=>none
 | .row i=>match km[i]? with
  | some (some k)=>some (.row k)
  | some none=>some (.t (.v (.slice none 0 0)))
  | none=>none
 | .fn f caps=>(rT (caps.map (Ov km))).map (.fn f)
 | .self t=>some (.self t)
 | .top=>some .top
 | _=>none
def JL(km:List (Option Nat)):S1→Option S1
 | .c c=>(AF km c).map .c
 | .agg l=>(rT (l.map (AF km))).map .agg
def E9(km:List (Option Nat)):O→Option O
 | .box l=>(rT (l.map (AF km))).map .box
 | .row fz e n l=>some (.row fz e n l)
 | .mp fz e n l=>some (.mp fz e n l)
 | .dead=>some .dead
 | .cv _=>none
 | .rr _ _ _ _ _=>none
 | .fwd _=>none
 | .fresh=>none
def II(ae:List O):List (Option Nat)→List O→List O
 | some k::km,o::os=>II (ae.set k o) km os
 | none::km,_::os=>II ae km os
 | _,_=>ae
def IJ(st:St)(dst:Option Nat)(aw:Nat):Option (List Nat):=match aw,dst with
 | 0,_=>some []
 | n+1,some d=>let l:=(([0,1,2,3,4,5].map fun j=>st.np+(j*st.env.length+d)).filter fun i=>uA st.ae[i]?).take (n+1)
  if l.length=n+1 then some l else
   let l2:=((List.range st.ae.length).filter fun i=>decide (st.np≤i)&&uA st.ae[i]?).take (n+1)
   if l2.length=n+1 then some l2 else none
 | _,none=>none
section
variable {R:Type}
def AG(A:Callee)(st:St)(dst:Option Nat)(ds:List D)(k:St→D→Option R):Option R:=
 match Fr ds with
 | none=>none
 | some ss=>match rT ((xW A.deep st.ae ss).map (CD st.ae)) with
  | none=>none
  | some bl=>match rI st (xW A.deep st.ae ss) (xW A.deep st.ae ss).length A.rows (ss.flatMap S1.list++bl.flatten) with
   | none=>none
   | some (cs,rws)=>
    let rk:=rws.filterMap (·.1)
    let tk:=lP A.rows (ss.flatMap S1.list++bl.flatten)
    let po:=jZ bl (cs.drop (ss.flatMap S1.list).length)++rws.map (·.2)
    if decide rk.Nodup&&rk.all (fun z=>!tk.contains z) then
     A.call (zA ss cs) po fun rs po'=>
      if po.isEmpty&&po'.isEmpty&&rs.all (fun s=>s.list.all E8) then k st (JK rs)
      else match IJ { st with ae:=ai st.ae tk } dst (po'.length-po.length) with
       | none=>none
       | some nk=>
        let km:=(xW A.deep st.ae ss).map some++rws.map (·.1)++nk.map some
        if decide nk.Nodup&&decide (po.length≤po'.length) then match rT (po'.map (E9 km)),rT (rs.map (JL km)) with
         | some po2,some rs'=>k { st with ae:=II (ai st.ae tk) km po2 } (JK rs')
         | _,_=>none
        else none
    else none
def yV(A:Callee)(st:St)(dst:Option Nat)(ds:List D)(k:St→D→Option R):Option R:=match A.inl with
 | some I=>I.go st dst ds k
 | none=>AG A st dst ds k
end
theorem LL:∀{l:List D} {m:List S1},Fr l=some m→l=m.map .s
 | [],m,h=>by simp only[Fr,cG] at h;subst h;rfl
 | .s s::l,m,h=>by
  simp only[Fr] at h
  cases hs:Fr l with
  | none=>simp[hs] at h
  | some q=>
   simp only[hs,fA,cG] at h
   subst h
   rw[LL hs];rfl
 | .eg _::l,m,h=>by simp[Fr] at h
theorem U2:∀(l acc:List Nat),acc.Nodup→(Oe acc l).Nodup
 | [],acc,h=>by simp only[Oe];exact List.pairwise_reverse.2 (h.imp fun hab=>OS hab)
 | k::l,acc,h=>by
  simp only[Oe]
  split
  ·exact U2 l acc h
  ·rename_i hc
   refine U2 l (k::acc) (dC.2 ⟨fun hm=>hc (by simpa using hm),h⟩)
theorem W7(l:List S1):(MS l).Nodup:=U2 _ _ OV
theorem W8(deep:Bool)(ae:List O)(l:List S1):(xW deep ae l).Nodup:=by
 cases deep
 ·exact W7 l
 ·exact U2 _ _ OV
def Jm(A:Callee):Callee:={ A with deep:=true }
section
variable {P:Program} {w0 w w':World} {F Xc X X':Nat→Prop} {ρ0:cq} {ρ ρ':nP} {st:St} {a:Act}
theorem rW:∀(rows:List Nat) (ae:List O) (k:Nat) (l:List C),ae[k]?=some (.box l)→(ai ae rows)[k]?=some (.box l)
 | [],_,_,_,h=>h
 | q::rows,ae,k,l,h=>by
  simp only[ai]
  split
  ·rename_i o ho
   refine rW rows _ k l ?_
   by_cases hq:q=k
   ·subst hq
    rw[h] at ho
    cases ho
    rw[iJ (dL.1 h).1];rfl
   ·rw[fK hq];exact h
  ·exact rW rows ae k l h
theorem Ab(rows:List Nat):∀(ae:List O) (k:Nat),ae[k]?=some .fresh↔(ai ae rows)[k]?=some .fresh:=by
 induction rows with
 | nil=>intro ae k;exact DX
 | cons q rows ih=>
  intro ae k
  simp only[ai]
  split
  ·rename_i o ho
   rw[←ih]
   by_cases hq:q=k
   ·subst hq
    rw[iJ (dL.1 ho).1,ho]
    cases o <;> simp[nH]
   ·rw[fK hq]
  ·exact ih ae k
theorem GM{ks:List Nat}(hn:ks.Nodup){i j k:Nat}(h1:ks[i]?=some k)(h2:ks[j]?=some k):i=j:=by
 obtain⟨hi,e1⟩:=dL.1 h1
 obtain⟨hj,e2⟩:=dL.1 h2
 rcases Nat.lt_trichotomy i j with hlt | heq | hlt
 ·exact(List.pairwise_iff_getElem.1 hn i j hi hj hlt (e1.trans e2.symm)).elim
 ·exact heq
 ·exact(List.pairwise_iff_getElem.1 hn j i hj hi hlt (e2.trans e1.symm)).elim
theorem SY{ks:List Nat}{k i:Nat}(h:IH ks k=some i):ks[i]?=some k:=by
 unfold IH at h
 rw[List.idxOf?_eq_some_iff] at h
 obtain⟨hi,h1,_⟩:=h
 rw[dH hi,h1]
theorem bw.cons{c:C}{l:List C}{y:Value}{ys:List Value}(h1:cm w X ρ c y)(h2:bw w X ρ l ys):bw w X ρ (c::l) (y::ys):=
 ⟨by simp[h2.1],fun i c' y' e1 e2=>by
  cases i with
  | zero=>simp at e1 e2;subst e1;subst e2;exact h1
  | succ i=>exact h2.2 i c' y' (by simpa using e1) (by simpa using e2)⟩
theorem bw.js{c:C}{l:List C}{y:Value}{ys:List Value}(h:bw w X ρ (c::l) (y::ys)):cm w X ρ c y∧bw w X ρ l ys:=
 ⟨h.2 0 c y rfl rfl,by simpa using h.1,fun i c' y' e1 e2=>h.2 (i+1) c' y' (by simpa using e1) (by simpa using e2)⟩
theorem Jn{ks:List Nat}{c c':C}{y:Value}(h:Rel w0 F Xc ρ0 ρ st a w)(hX:∀b,X' b→XB st.ae ρ Xc b)(hks:∀k i,IH ks k=some i→∀v,ρ k=some v→ρ' i=some v)
 (hr:∀key∈C.rs c,∀b v,ρ key=some v→bq v=some b→¬X' b)
 (hc:cm w (XB st.ae ρ Xc) ρ c y) (hp:PC st ks c=some c'):cm w X' ρ' c' y:=by
 unfold PC at hp
 split at hp
 ·cases hp
  rcases hc with hc | ⟨hc,h1⟩
  ·cases hc
  ·exact .inr ⟨Rd.ij hc hX,h1⟩
 ·rename_i key
  split at hp
  ·rename_i fz e n es hob
   cases hp
   rcases hc with hc | ⟨hc,h1⟩
   ·cases hc
   ·obtain⟨v,e1,e2⟩:=h.ae key _ hob
    have hcc:ρ key=some y:=hc
    rw[hcc] at e1
    cases e1
    exact .inr ⟨JI e2 hX (fun b hb=>hr key (by simp[C.rs]) b y hcc hb),h1⟩
  ·rename_i fz e n es hob
   cases hp
   rcases hc with hc | ⟨hc,h1⟩
   ·cases hc
   ·obtain⟨v,e1,e2⟩:=h.ae key _ hob
    have hcc:ρ key=some y:=hc
    rw[hcc] at e1
    cases e1
    exact .inr ⟨UT e2 hX (fun b hb=>hr key (by simp[C.rs]) b y hcc hb),h1⟩
  ·cases hp
 ·rename_i k j
  cases hi:IH ks k with
  | none=>simp[hi] at hp
  | some i=>
   simp only[hi,fA,cG] at hp
   subst hp
   rcases hc with hc | ⟨⟨v,e1,e2⟩,h1⟩
   ·cases hc
   ·exact .inr ⟨⟨v,hks k i hi v e1,e2⟩,h1⟩
 ·rename_i f caps
  cases hs:rT (caps.map fun p=>(IH ks p.1).map fun i=>(i,p.2)) with
  | none=>simp[hs] at hp
  | some caps'=>
   simp only[hs,fA,cG] at hp
   subst hp
   obtain⟨q1,q2⟩:=xV hs
   rcases hc with hc | ⟨⟨vs,e1,e2,e3⟩,h1⟩
   ·cases hc
   ·refine .inr ⟨⟨vs,e1,e2.trans q1.symm,fun i p v hp hv=>?_⟩,h1⟩
    obtain⟨p0,g1,g2⟩:=uO hs i p hp
    obtain⟨hh,f1,f2⟩:=e3 i p0 v g1 hv
    cases hix:IH ks p0.1 with
    | none=>simp[hix] at g2
    | some ix=>
     simp only[hix,fA,cG] at g2
     subst g2
     exact⟨hh,hks _ _ hix _ f1,f2⟩
 ·cases hp
  rcases hc with hc | ⟨hc,h1⟩
  ·cases hc
  ·exact .inr ⟨trivial,h1⟩
 ·rename_i key n lo len tg
  split at hp
  ·rename_i fz e n' es hob
   split at hp
   ·rename_i hn
    subst hn
    cases hp
    rcases hc with hc | ⟨⟨v,q1,q2⟩,h1⟩
    ·cases hc
    ·obtain⟨v',e1,e2⟩:=h.ae key _ hob
     rw[q1] at e1
     cases e1
     exact .inr ⟨O5 e2 q2 hX (fun b hb=>hr key (by simp[C.rs]) b v q1 hb),h1⟩
   ·cases hp
  ·cases hp
 ·cases hp;exact .inl rfl
 ·cases hp
def Vf(st:St)(p:Option Nat×O):Prop:=∃e n l,(p.2=.row false e n l∨p.2=.mp false e n l)∧(∀key,p.1=some key→st.ae[key]?=some p.2)∧(p.1=none→p.2=.row false e n []∧(0<n∧n<1000000000))
theorem W9{m:TypeId×Nat}{c:C}{p:Option Nat×O}(h:PD st m c=some p):Vf st p∧((∃key,c=.row key∧p.1=some key)∨(c=.t (.v (.slice none 0 0))∧p.1=none)):=by
 unfold PD at h
 split at h
 ·rename_i key
  split at h
  ·rename_i e n l hob
   split at h
   ·cases h
    exact⟨⟨e,n,l,.inl rfl,fun k hk=>by cases hk;exact hob,fun hk=>by cases hk⟩,.inl ⟨key,rfl,rfl⟩⟩
   ·cases h
  ·rename_i e n l hob
   split at h
   ·cases h
    exact⟨⟨e,n,l,.inr rfl,fun k hk=>by cases hk;exact hob,fun hk=>by cases hk⟩,.inl ⟨key,rfl,rfl⟩⟩
   ·cases h
  ·cases h
 ·split at h
  ·rename_i hn
   cases h
   exact⟨⟨_,_,[],.inl rfl,(fun k hk=>(by cases hk)),fun _=>⟨rfl,hn⟩⟩,.inr ⟨rfl,rfl⟩⟩
  ·cases h
 ·cases h
theorem PF{ks:List Nat}(h:Rel w0 F Xc ρ0 ρ st a w)(hX:∀b,X' b→XB st.ae ρ Xc b)(hks:∀k i,IH ks k=some i→∀v,ρ k=some v→ρ' i=some v):
 ∀(cs:List C) (j:Nat) (ms:List (Option (TypeId×Nat))) (cs':List C) (rws:List (Option Nat×O)) (ys:List Value),rI st ks j ms cs=some (cs',rws)→(∀key∈lP ms cs,∀b v,ρ key=some v→bq v=some b→¬X' b) →
  (∀(q:Nat) p,rws[q]?=some p→ρ' (j+q)=match p.1 with | some key=>ρ key | none=>some (.slice none 0 0))→bw w (XB st.ae ρ Xc) ρ cs ys→bw w X' ρ' cs' ys
 | [],j,ms,cs',rws,ys,hh,_,_,hy=>by
  cases ms <;> (simp only[rI,cG,xR] at hh;obtain⟨rfl,_⟩:=hh;exact⟨hy.1,fun i c y h1 _=>by simp at h1⟩)
 | c::cs,j,ms,cs',rws,ys,hh,ht,hr,hy=>by
  cases ys with
  | nil=>simp[bw] at hy
  | cons y ys=>
  obtain⟨hy1,hy2⟩:=hy.js
  simp only[rI] at hh
  simp only[lP] at ht
  split at hh
  ·rename_i m hm
   rw[hm] at ht
   split at hh
   ·rename_i p q hp hq
    cases hh
    obtain⟨_,hpc⟩:=W9 hp
    have h0:=hr 0 p rfl
    refine .cons ?_ (PF h hX hks cs (j+1) ms.tail _ _ ys hq ht (fun i p' hi=>by have:=hr (i+1) p' (by simpa using hi);rw[←this];congr 1;omega) hy2)
    rcases hpc with⟨key,rfl,hk⟩ | ⟨rfl,hk⟩
    ·rw[hk] at h0
     rcases hy1 with hy1 | ⟨hy1,h1⟩
     ·cases hy1
     ·exact .inr ⟨h0.trans hy1,h1⟩
    ·rw[hk] at h0
     rcases hy1 with hy1 | ⟨hy1,h1⟩
     ·cases hy1
     ·have:=Rd.cr hy1
      subst this
      exact .inr ⟨h0,h1⟩
   ·cases hh
  ·rename_i hm
   rw[hm] at ht
   split at hh
   ·rename_i c' q hp hq
    cases hh
    exact .cons (Jn h hX hks (fun key hk=>ht key (fL.2 (.inl hk))) hy1 hp) (PF h hX hks cs j ms.tail _ _ ys hq (fun key hk=>ht key (fL.2 (.inr hk))) hr hy2)
   ·cases hh
theorem C3{ks:List Nat}:∀(cs:List C) (j:Nat) (ms:List (Option (TypeId×Nat))) (cs':List C) (rws:List (Option Nat×O)),rI st ks j ms cs=some (cs',rws)→∀p∈rws,Vf st p
 | [],j,ms,cs',rws,hh,p,hp=>by
  cases ms <;> (simp only[rI,cG,xR] at hh;obtain⟨_,rfl⟩:=hh;simp at hp)
 | c::cs,j,ms,cs',rws,hh,p,hp=>by
  simp only[rI] at hh
  split at hh
  ·split at hh
   ·rename_i p' q hp' hq
    cases hh
    rcases cJ.1 hp with rfl | hp
    ·exact(W9 hp').1
    ·exact C3 cs (j+1) ms.tail _ _ hq p hp
   ·cases hh
  ·split at hh
   ·rename_i c' q hp' hq
    cases hh
    exact C3 cs j ms.tail _ _ hq p hp
   ·cases hh
theorem bw.cut{X:Nat→Prop}{ρ:nP}{cs:List C}{ys zs:List Value}(h:bw w X ρ cs (ys++zs)):bw w X ρ (cs.take ys.length) ys∧bw w X ρ (cs.drop ys.length) zs:=by
 have h1:=h.take ys.length
 have h2:=h.drop ys.length
 rw[T8] at h1
 rw[List.drop_left] at h2
 exact⟨h1,h2⟩
theorem cz.cons{X:Nat→Prop}{ρ:nP}{s:S1}{l:List S1}{y:Value}{ys:List Value}(h1:en w X ρ s y)(h2:cz w X ρ l ys):cz w X ρ (s::l) (y::ys):=
 ⟨by simp[h2.1],fun i s' y' e1 e2=>by
  cases i with
  | zero=>simp at e1 e2;subst e1;subst e2;exact h1
  | succ i=>exact h2.2 i s' y' (by simpa using e1) (by simpa using e2)⟩
theorem cz.tail{X:Nat→Prop}{ρ:nP}{s:S1}{l:List S1}{y:Value}{ys:List Value}(h:cz w X ρ (s::l) (y::ys)):en w X ρ s y∧cz w X ρ l ys:=
 ⟨h.2 0 s y rfl rfl,by simpa using h.1,fun i s' y' e1 e2=>h.2 (i+1) s' y' (by simpa using e1) (by simpa using e2)⟩
theorem IK{ks:List Nat}:∀(cs:List C) (j:Nat) (ms:List (Option (TypeId×Nat))) (cs':List C) (rws:List (Option Nat×O)),rI st ks j ms cs=some (cs',rws)→∀key∈lP ms cs,∃o,st.ae[key]?=some o∧o.mo=true
 | [],j,ms,cs',rws,hh,key,hp=>by cases ms <;> simp[lP] at hp
 | c::cs,j,ms,cs',rws,hh,key,hp=>by
  simp only[rI] at hh
  simp only[lP] at hp
  split at hh
  ·rename_i m hm
   rw[hm] at hp
   split at hh
   ·rename_i p' q hp' hq
    cases hh
    exact IK cs (j+1) ms.tail _ _ hq key hp
   ·cases hh
  ·rename_i hm
   rw[hm] at hp
   split at hh
   ·rename_i c' q hp' hq
    cases hh
    rcases fL.1 hp with hp | hp
    ·cases c with
     | row k=>
      simp only[C.rs,OW] at hp
      subst hp
      have hp2:(match st.ae[key]? with | some (.row _ _ n es)=>some (.t (.sl n es)) | some (.mp _ _ n es)=>some (.t (.sl n es)) | _=>none:Option C)=some c':=hp'
      split at hp2
      ·rename_i fz e n es hob;exact⟨_,hob,rfl⟩
      ·rename_i fz e n es hob;exact⟨_,hob,rfl⟩
      ·cases hp2
     | cut k m lo len tg=>
      simp only[C.rs,OW] at hp
      subst hp
      have hp2:(match st.ae[key]? with | some (.row _ _ n' es)=>if n'=m then some (.t (.sl m (oC es lo len))) else none | _=>none:Option C)=some c':=hp'
      split at hp2
      ·rename_i fz e n es hob;exact⟨_,hob,rfl⟩
      ·cases hp2
     | _=>simp[C.rs] at hp
    ·exact IK cs j ms.tail _ _ hq key hp
   ·cases hh
theorem IL{ks:List Nat}:∀(cs:List C) (j:Nat) (ms:List (Option (TypeId×Nat))) (cs':List C) (rws:List (Option Nat×O)),rI st ks j ms cs=some (cs',rws)→cd cs cs'
 | [],j,ms,cs',rws,hh,i,t,hi=>by cases ms <;> (simp only[rI,cG,xR] at hh;obtain⟨rfl,_⟩:=hh;simp at hi)
 | c::cs,j,ms,cs',rws,hh,i,t,hi=>by
  simp only[rI] at hh
  split at hh
  ·split at hh
   ·rename_i p' q hp' hq
    cases hh
    cases i with
    | zero=>simp at hi
    | succ i=>simpa using IL cs (j+1) ms.tail _ _ hq i t (by simpa using hi)
   ·cases hh
  ·split at hh
   ·rename_i c' q hp' hq
    cases hh
    cases i with
    | zero=>
     simp only[zY,cG] at hi ⊢
     subst hi
     unfold PC at hp'
     split at hp'
     ·cases hp'
     ·split at hp'
      ·cases hp'
      ·cases hp'
      ·cases hp'
     ·rename_i k j'
      cases h9:IH ks k with
      | none=>simp[h9] at hp'
      | some v=>simp[h9] at hp'
     ·rename_i f caps
      cases h9:rT (caps.map fun p=>(IH ks p.1).map fun i=>(i,p.2)) with
      | none=>simp[h9] at hp'
      | some v=>simp[h9] at hp'
     ·cases hp';rfl
     ·split at hp'
      ·split at hp' <;> cases hp'
      ·cases hp'
     ·cases hp'
     ·cases hp'
    | succ i=>simpa using IL cs j ms.tail _ _ hq i t (by simpa using hi)
   ·cases hh
theorem HK:∀(bl:List (List C)) (cs:List C),cd bl.flatten cs→∀(i:Nat) (l':List C),(jZ bl cs)[i]?=some (.box l')→cd (bl.getD i []) l'
 | [],_,_,i,l',h=>by simp[jZ] at h
 | a::bl,cs,hs,i,l',h=>by
  rw[List.flatten_cons] at hs
  cases i with
  | zero=>simp only[jZ,zY,cG,O.box.injEq] at h;subst h;exact hs.left
  | succ i=>exact HK bl _ hs.right i l' (by simpa[jZ] using h)
theorem Ac{km:List (Option Nat)}{c:C}{t:TypeId}(h:AF km c=some (.self t)):c=.self t:=by
 unfold AF at h
 split at h
 ·cases h
 ·split at h <;> cases h
 ·split at h <;> cases h
 ·rename_i f caps
  cases h9:rT (caps.map (Ov km)) with
  | none=>simp[h9] at h
  | some v=>simp[h9] at h
 ·cases h;rfl
 ·cases h
 ·cases h
theorem Ad{km:List (Option Nat)}{l l':List C}(hp:rT (l.map (AF km))=some l'):cd l l':=fun i t hi=>by
 obtain⟨c,h1,h2⟩:=uO hp i _ hi
 rw[h1,Ac h2]
theorem vC:∀(bl:List (List C)) (cs:List C),(jZ bl cs).length=bl.length
 | [],_=>rfl
 | l::bl,cs=>by simp[jZ,vC bl]
theorem XA{X:Nat→Prop}{ρ:nP}:∀(ss:List S1) (vals:List Value),cz w X ρ ss vals →
 ∃ys,bw w X ρ (ss.flatMap S1.list) ys∧∀(X':Nat→Prop) (ρ':nP) (cs':List C) (zs:List Value),bw w X' ρ' cs' (ys++zs)→cz w X' ρ' (zA ss cs') vals
 | [],vals,h=>by
  have hv:vals=[]:=uK h.1
  subst hv
  exact⟨[],⟨rfl,fun i c y h1 _=>by simp at h1⟩,fun X' ρ' cs' zs _=>⟨rfl,fun i s y h1 _=>by simp[zA] at h1⟩⟩
 | s::ss,vals,h=>by
  cases vals with
  | nil=>simp[cz] at h
  | cons v vals=>
  obtain⟨h1,h2⟩:=h.tail
  obtain⟨ys,q1,q2⟩:=XA ss vals h2
  cases s with
  | c c=>
   refine⟨v::ys,by rw[H9];exact(bw.one (c:=c) h1).append q1,fun X' ρ' cs' zs hcs=>?_⟩
   cases cs' with
   | nil=>simp[bw] at hcs
   | cons c' cs'=>
    obtain⟨r1,r2⟩:=hcs.js
    exact .cons r1 (q2 X' ρ' cs' zs r2)
  | agg l=>
   obtain⟨cs,rfl,hl⟩:=h1
   refine⟨cs.toList++ys,by rw[H9];exact hl.append q1,fun X' ρ' cs' zs hcs=>?_⟩
   rw[I7] at hcs
   obtain⟨r1,r2⟩:=hcs.cut
   rw[hl.1] at r1 r2
   exact .cons ⟨cs,rfl,r1⟩ (q2 X' ρ' _ zs r2)
theorem XC{X:Nat→Prop}{ρ:nP}{Q:Nat→List Value→Prop}:∀(bl:List (List C)) (j:Nat),(∀(i:Nat) l,bl[i]?=some l→∃zs,bw w X ρ l zs∧Q (j+i) zs) →
 ∃ys,bw w X ρ bl.flatten ys∧∀(X':Nat→Prop) (ρ':nP) (cs':List C),bw w X' ρ' cs' ys→(jZ bl cs').length=bl.length∧∀(i:Nat) o,(jZ bl cs')[i]?=some o→∃l' zs,o=.box l'∧Q (j+i) zs∧bw w X' ρ' l' zs
 | [],j,h=>⟨[],⟨rfl,fun i c y h1 _=>by simp at h1⟩,fun X' ρ' cs' _=>⟨rfl,fun i o h=>by simp[jZ] at h⟩⟩
 | l::bl,j,h=>by
  obtain⟨zs,hz1,hz2⟩:=h 0 l rfl
  obtain⟨ys,q1,q2⟩:=XC (Q:=Q) bl (j+1) (fun i l' hi=>by obtain⟨zs,e1,e2⟩:=h (i+1) l' (by simpa using hi);exact⟨zs,e1,by rw[show j+1+i=j+(i+1) by omega];exact e2⟩)
  refine⟨zs++ys,by rw[List.flatten_cons];exact hz1.append q1,fun X' ρ' cs' hcs=>?_⟩
  obtain⟨r1,r2⟩:=hcs.cut
  rw[hz1.1] at r1 r2
  obtain⟨p1,p2⟩:=q2 X' ρ' _ r2
  refine⟨by simp[jZ,p1],fun i o ho=>?_⟩
  cases i with
  | zero=>simp only[jZ,zY,cG] at ho;subst ho;exact⟨_,zs,rfl,hz2,r1⟩
  | succ i=>
   obtain⟨l',zs',e1,e2,e3⟩:=p2 i o (by simpa[jZ] using ho)
   exact⟨l',zs',e1,by rw[show j+(i+1)=j+1+i by omega];exact e2,e3⟩
def Jo(km:List (Option Nat))(ρ' ρ'':nP):Prop:=∀(i:Nat) m,km[i]?=some m→∀v,ρ' i=some v→match m with | some k=>ρ'' k=some v | none=>v=.slice none 0 0
theorem XD{km:List (Option Nat)}{ρ'':nP}{c c':C}{y:Value}(hX:∀b,X' b→X b)(hρ:Jo km ρ' ρ'')(hc:cm w X ρ' c y)(hp:AF km c=some c'):cm w X' ρ'' c' y:=by
 unfold AF at hp
 split at hp
 ·cases hp
  rcases hc with hc | ⟨hc,h1⟩
  ·cases hc
  ·exact .inr ⟨Rd.ij hc hX,h1⟩
 ·rename_i i j
  split at hp
  ·rename_i k hk
   cases hp
   rcases hc with hc | ⟨⟨v,e1,e2⟩,h1⟩
   ·cases hc
   ·exact .inr ⟨⟨v,hρ i _ hk v e1,e2⟩,h1⟩
  ·cases hp
 ·rename_i i
  split at hp
  ·rename_i k hk
   cases hp
   rcases hc with hc | ⟨hc,h1⟩
   ·cases hc
   ·exact .inr ⟨hρ i _ hk y hc,h1⟩
  ·rename_i hk
   cases hp
   rcases hc with hc | ⟨hc,h1⟩
   ·cases hc
   ·have:=hρ i _ hk y hc
    simp only at this
    subst this
    exact .inr ⟨.v _,h1⟩
  ·cases hp
 ·rename_i f caps
  cases hs:rT (caps.map (Ov km)) with
  | none=>simp[hs] at hp
  | some caps'=>
   simp only[hs,fA,cG] at hp
   subst hp
   obtain⟨q1,q2⟩:=xV hs
   rcases hc with hc | ⟨⟨vs,e1,e2,e3⟩,h1⟩
   ·cases hc
   ·refine .inr ⟨⟨vs,e1,e2.trans q1.symm,fun i p v hp hv=>?_⟩,h1⟩
    obtain⟨p0,g1,g2⟩:=uO hs i p hp
    obtain⟨hh,f1,f2⟩:=e3 i p0 v g1 hv
    unfold Ov at g2
    split at g2
    ·rename_i k hk
     cases g2
     exact⟨hh,hρ _ _ hk hh f1,f2⟩
    ·cases g2
 ·cases hp
  rcases hc with hc | ⟨hc,h1⟩
  ·cases hc
  ·exact .inr ⟨trivial,h1⟩
 ·cases hp;exact .inl rfl
 ·cases hp
theorem XE{km:List (Option Nat)}{ρ'':nP}{l l':List C}{ys:List Value}(hX:∀b,X' b→X b)(hρ:Jo km ρ' ρ'')(hc:bw w X ρ' l ys)(hp:rT (l.map (AF km))=some l'):bw w X' ρ'' l' ys:=by
 obtain⟨q1,q2⟩:=xV hp
 refine⟨hc.1.trans q1.symm,fun i c y h1 h2=>?_⟩
 obtain⟨c0,g1,g2⟩:=uO hp i c h1
 exact XD hX hρ (hc.2 i c0 y g1 h2) g2
theorem XF{km:List (Option Nat)}{ρ'':nP}{s s':S1}{y:Value}(hX:∀b,X' b→X b)(hρ:Jo km ρ' ρ'')(hc:en w X ρ' s y)(hp:JL km s=some s'):en w X' ρ'' s' y:=by
 cases s with
 | c c=>
  simp only[JL] at hp
  cases hq:AF km c with
  | none=>simp[hq] at hp
  | some c'=>
   simp only[hq,fA,cG] at hp
   subst hp
   exact XD hX hρ hc hq
 | agg l=>
  simp only[JL] at hp
  cases hq:rT (l.map (AF km)) with
  | none=>simp[hq] at hp
  | some l'=>
   simp only[hq,fA,cG] at hp
   subst hp
   obtain⟨cs,rfl,hl⟩:=hc
   exact⟨cs,rfl,XE hX hρ hl hq⟩
theorem So{km:List (Option Nat)}{ρ'':nP}{rs rs':List S1}{v:Value}(hX:∀b,X' b→X b)(hρ:Jo km ρ' ρ'')(h:ey w X ρ' rs v)(hp:rT (rs.map (JL km))=some rs'):
 bc w X' ρ'' (JK rs') v:=by
 obtain⟨q1,q2⟩:=xV hp
 have key:∀{vs:List Value},cz w X ρ' rs vs→cz w X' ρ'' rs' vs:=fun hl=>⟨hl.1.trans q1.symm,fun i s y h1 h2=>by
  obtain⟨s0,g1,g2⟩:=uO hp i s h1
  exact XF hX hρ (hl.2 i s0 y g1 h2) g2⟩
 match rs,rs',q1 with
 | [s],[s'],_=>
  obtain⟨s0,g1,g2⟩:=uO hp 0 s' rfl
  simp at g1
  subst g1
  exact XF hX hρ h g2
 | [],[],_=>obtain⟨vs,e,hl⟩:=h;exact⟨vs,e,key hl⟩
 | s1::s2::l,s1'::s2'::l',_=>obtain⟨vs,e,hl⟩:=h;exact⟨vs,e,key hl⟩
end
end Go.Eng
