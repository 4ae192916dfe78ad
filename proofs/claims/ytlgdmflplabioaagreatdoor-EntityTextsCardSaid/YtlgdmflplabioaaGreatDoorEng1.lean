/- An engine that turns the code of a function into a plain function on tuples, part 1: what it says of a function holds of every run; it has no conditions of its own. -/
import Derived.WalkKit
import Derived.Laws.CopyOwn
import Derived.Maps.AppendAt
import Derived.Lib.AppendStr
import Derived.Laws.BytesString
import Derived.Deep.AppendSrc
import Derived.Laws.IdiomCopy
import Derived.MapKept
set_option linter.unusedSimpArgs false
set_option linter.unusedVariables false
namespace Go.Eng
open Go.RowKit
inductive T where
 | v (x:Value)
 | agg (l:List T)
 | sl (k:Nat) (l:List T)
instance:Inhabited T:=⟨.agg []⟩
def T.cells:T→List T
 | .agg l=>l
 | t=>[t]
def flat(l:List T):List T:=l.flatMap T.cells
theorem gS(t:T)(l:List T):flat (t::l)=t.cells++flat l:=by simp[flat]
theorem kS(l m:List T):flat (l++m)=flat l++flat m:=by simp[flat]
def Uni(k:Nat)(l:List T):Prop:=∀t∈l,t.cells.length=k
theorem Uni.nil(k:Nat):Uni k []:=fun _ h=>by cases h
theorem Uni.append{k:Nat}{l m:List T}(h:Uni k l)(h':Uni k m):Uni k (l++m):=fun t ht=>by
 rcases List.mem_append.1 ht with ht | ht
 ·exact h t ht
 ·exact h' t ht
theorem Uni.length{k:Nat}{l:List T}(h:Uni k l):(flat l).length=l.length*k:=by
 induction l with
 | nil=>simp[flat]
 | cons t l ih=>
  rw[gS,List.length_append,h t (by simp),ih (fun t ht=>h t (by simp[ht])),List.length_cons,Nat.add_mul]
  omega
theorem Uni.drop{k:Nat}{l:List T}(h:Uni k l)(n:Nat):Uni k (l.drop n):=fun t ht=>h t (List.mem_of_mem_drop ht)
theorem Uni.take{k:Nat}{l:List T}(h:Uni k l)(n:Nat):Uni k (l.take n):=fun t ht=>h t (List.mem_of_mem_take ht)
theorem Uni.flat_drop{k:Nat}{l:List T}(h:Uni k l)(n:Nat):flat (l.drop n)=(flat l).drop (n*k):=by
 induction l generalizing n with
 | nil=>simp[flat]
 | cons t l ih=>
  cases n with
  | zero=>simp
  | succ n=>
   have hk:=h t (by simp)
   have e:(n+1)*k=n*k+k:=by rw[Nat.add_mul];omega
   rw[List.drop_succ_cons,ih (fun t ht=>h t (by simp[ht])),gS,List.drop_append,List.drop_eq_nil_of_le (as:=t.cells) (by omega),List.nil_append,e,hk,Nat.add_sub_cancel]
theorem Uni.flat_take{k:Nat}{l:List T}(h:Uni k l)(n:Nat):flat (l.take n)=(flat l).take (n*k):=by
 induction l generalizing n with
 | nil=>simp[flat]
 | cons t l ih=>
  cases n with
  | zero=>simp[flat]
  | succ n=>
   have hk:=h t (by simp)
   have e:(n+1)*k=n*k+k:=by rw[Nat.add_mul];omega
   rw[List.take_succ_cons,gS,gS,ih (fun t ht=>h t (by simp[ht])),List.take_append,List.take_of_length_le (l:=t.cells) (by omega),e,hk,Nat.add_sub_cancel]
theorem Uni.cell{k:Nat}{l:List T}(h:Uni k l){i:Nat}{t:T}(hi:l[i]?=some t)(j:Nat)(hj:j<k):(flat l)[i*k+j]?=t.cells[j]?:=by
 have hd:=h.flat_drop i
 obtain⟨hlt,rfl⟩:=List.getElem?_eq_some_iff.1 hi
 rw[List.drop_eq_getElem_cons hlt,gS] at hd
 have:=congrArg (fun x=>x[j]?) hd
 simp only[List.getElem?_drop] at this
 rw[←this,List.getElem?_append_left (by rw[h _ (List.getElem_mem hlt)];exact hj)]
def zI:List T→Option (List Value)
 | []=>some []
 | .v (.int .i64 a)::l=>(zI l).map (.int .i64 a::·)
 | _::_=>none
def kT:Nat→T→Option Value
 | 0,.v (.int .i64 a)=>some (.int .i64 a)
 | 1,.v (.string s)=>some (.string s)
 | m+2,.agg l=>if l.length=m then (zI l).map fun vs=>.agg vs.toArray else none
 | _,_=>none
def CG(v:T)(y:Value):Prop:=(∃l,v=.agg l)∨y.oneCell'=true
inductive Rd (w:World) (X:Nat→Prop):T→Value→Prop
 | v (x:Value):Rd w X (.v x) x
 | agg (l:List T) (cs:Array Value) (hl:cs.size=l.length) (h1:∀(i:Nat) y,cs[i]?=some y→y.oneCell'=true)
  (h:∀(i:Nat) t y,l[i]?=some t→cs[i]?=some y→Rd w X t y):Rd w X (.agg l) (.agg cs)
 | nil (k:Nat) (hk:k<1000000000):Rd w X (.sl k []) (.slice none 0 0)
 | mp (n:Nat) (l:List T) (g:Nat) (es:Array MapEntry) (clock:Nat) (hn:1000000000≤n) (hg:w.heap[g]?=some (.map es clock)) (hx:¬X g) (hl:es.size=l.length)
  (hs:∀(i:Nat) t e,l[i]?=some t→es[i]?=some e→∃k v,t=.agg [k,v]∧kT (n-1000000000) k=some e.key∧CG v e.val)
  (hb:clock=es.size∧∀(i:Nat) e,es[i]?=some e→e.born=i)
  (hv:∀(i:Nat) k v e,l[i]?=some (.agg [k,v])→es[i]?=some e→Rd w X v e.val):Rd w X (.sl n l) (.map (some g))
 | sl (k:Nat) (l:List T) (a:Addr) (c:Nat) (ys:List Value) (hk:k<1000000000) (hc:l.length≤c) (hm:c≤maxLen) (hu:Uni k l) (hy:ys.length=(flat l).length)
  (hcell:∀(i:Nat) y,ys[i]?=some y→w.cell? (a.add i)=some y∧¬X a.block∧y.oneCell'=true)
  (h:∀(i:Nat) t y,(flat l)[i]?=some t→ys[i]?=some y→Rd w X t y):Rd w X (.sl k l) (.slice (some a) l.length c)
structure Stp (Y:Nat→Prop) (w w':World):Prop where
 os:w'.os=w.os
 tape:w'.tape=w.tape
 output:w'.output=w.output
 size:w.heap.size≤w'.heap.size
 blk:∀b,b<w.heap.size→¬Y b→w'.heap[b]?=w.heap[b]?
theorem Stp.refl(Y:Nat→Prop)(w:World):Stp Y w w:=⟨rfl,rfl,rfl,Nat.le_refl _,fun _ _ _=>rfl⟩
theorem Stp.trans{Y:Nat→Prop}{a b c:World}(h:Stp Y a b)(k:Stp Y b c):Stp Y a c:=
 ⟨k.os.trans h.os,k.tape.trans h.tape,k.output.trans h.output,Nat.le_trans h.size k.size,
  fun x hx hy=>(k.blk x (Nat.lt_of_lt_of_le hx h.size) hy).trans (h.blk x hx hy)⟩
theorem Stp.after{Y Z:Nat→Prop}{a b c:World}(h:Stp Y a b)(k:Stp Z b c)(hz:∀x,Z x→x<a.heap.size→Y x):Stp Y a c:=
 ⟨k.os.trans h.os,k.tape.trans h.tape,k.output.trans h.output,Nat.le_trans h.size k.size,
  fun x hx hy=>(k.blk x (Nat.lt_of_lt_of_le hx h.size) (fun hzx=>hy (hz x hzx hx))).trans (h.blk x hx hy)⟩
theorem Stp.mono{Y Z:Nat→Prop}{a b:World}(h:Stp Y a b)(hz:∀x,Y x→x<a.heap.size→Z x):Stp Z a b:=
 ⟨h.os,h.tape,h.output,h.size,fun x hx hn=>h.blk x hx (fun hy=>hn (hz x hy hx))⟩
theorem Stp.drew(Y:Nat→Prop)(w:World):Stp Y w w.drew:=⟨rfl,rfl,rfl,Nat.le_refl _,fun _ _ _=>rfl⟩
theorem Stp.alloc(Y:Nat→Prop)(w:World)(o:Obj):Stp Y w (w.alloc o):=
 ⟨rfl,rfl,rfl,by simp,fun b hb _=>Below.heap_alloc w o b hb⟩
theorem Stp.setCell(Y:Nat→Prop)(w:World)(a:Addr)(u:Value)(h:Y a.block):Stp Y w (w.setCell a u):=
 ⟨rfl,rfl,rfl,by simp[World.setCell],fun b _ hy=>Below.heap_setCell w a u b (fun e=>hy (e▸h))⟩
theorem Stp.grown{Y:Nat→Prop}{w w':World}{row:Option Nat}(h:w.grownBy w' row)(hr:∀g,row=some g→Y g):Stp Y w w':=
 ⟨h.os,h.tape,h.output,h.size,fun b hb hy=>h.block b hb (fun e=>hy (hr b e.symm))⟩
theorem Stp.below{Y:Nat→Prop}{w w':World}(h:Stp Y w w')(hy:∀b,¬Y b):Below w.heap.size w w':=
 ⟨h.os,h.tape,h.output,h.size,fun b hb=>h.blk b hb (hy b)⟩
theorem Stp.cell{Y:Nat→Prop}{w w':World}(h:Stp Y w w'){a:Addr}{y:Value}(hc:w.cell? a=some y)(hy:¬Y a.block):w'.cell? a=some y:=
 (World.cell?_of_block (h.blk a.block (World.block_lt_of_cell? w a hc) hy)).trans hc
theorem dH(a:Addr)(i:Nat):(a.add i).block=a.block:=by unfold Addr.add;split <;> rfl
theorem kG(a:Addr)(i j:Nat):(a.add i).add j=a.add (i+j):=by
 unfold Addr.add
 by_cases hi:i=0 <;> by_cases hj:j=0 <;> simp[hi,hj,Nat.add_assoc]
theorem Rd.step{w w':World}{X X' Y:Nat→Prop}{t:T}{y:Value}(h:Rd w X t y)(hs:Stp Y w w')(hY:∀b,Y b→X b)
 (hX:∀b,X' b→X b∨w.heap.size≤b):Rd w' X' t y:=by
 induction h with
 | v x=>exact .v x
 | agg l cs hl h1 _ ih=>exact .agg l cs hl h1 ih
 | nil k hk=>exact .nil k hk
 | mp n l g es clock hn hg hx hl hs' hb _ ih=>
  have hlt:g<w.heap.size:=(Array.getElem?_eq_some_iff.1 hg).1
  refine .mp n l g es clock hn ((hs.blk g hlt fun hy=>hx (hY _ hy)).trans hg) (fun hx'=>?_) hl hs' hb ih
  rcases hX _ hx' with h | h
  ·exact hx h
  ·omega
 | sl k l a c ys hk hc hm hu hy hcell _ ih=>
  refine .sl k l a c ys hk hc hm hu hy (fun i y hi=>?_) ih
  obtain⟨h1,h2,h3⟩:=hcell i y hi
  have hlt:=World.block_lt_of_cell? w _ h1
  rw[dH] at hlt
  refine⟨hs.cell h1 (by rw[dH];exact fun hb=>h2 (hY _ hb)),fun hx=>?_,h3⟩
  rcases hX _ hx with h | h
  ·exact h2 h
  ·omega
theorem Rd.weak{w:World}{X X':Nat→Prop}{t:T}{y:Value}(h:Rd w X t y)(hX:∀b,X' b→X b):Rd w X' t y:=
 h.step (Y:=fun _=>False) (.refl _ w) (fun _ h=>h.elim) (fun b hb=>.inl (hX b hb))
theorem Rd.inv_v{w:World}{X:Nat→Prop}{x y:Value}(h:Rd w X (.v x) y):y=x:=by cases h;rfl
inductive C where
 | t (x:T)
 | box (k j:Nat)
 | row (k:Nat)
 | pe (n:Nat) (x:T) (j:Nat)
 | elt (k n i j:Nat)
 | fn (f:Nat) (caps:List (Nat×Nat))
 | self (t:TypeId)
 | cut (k n lo len:Nat) (tight:Bool)
 | amb
 | rk (k:Nat)
 | elr (k i:Nat)
 | inn (k i:Nat)
 | top
inductive S1 where
 | c (x:C)
 | agg (l:List C)
inductive D where
 | s (x:S1)
 | tup (l:List S1)
def D.top:D:=.s (.c .top)
instance:Inhabited D:=⟨D.top⟩
instance:Inhabited C:=⟨.top⟩
inductive O where
 | box (l:List C)
 | row (fz:Bool) (e:TypeId) (n:Nat) (l:List T)
 | mp (fz:Bool) (e:TypeId) (n:Nat) (l:List T)
 | fbox (l:List C)
 | rr (hole:Option Nat) (e e2:TypeId) (n:Nat) (l:List (List T))
 | fwd (k:Nat)
 | itr (cur:Option T) (e:TypeId) (n:Nat) (l:List T)
 | dead
 | fresh
instance:Inhabited O:=⟨.fresh⟩
def O.live:O→Bool
 | .box _=>true
 | .row fz _ _ _=>!fz
 | .mp fz _ _ _=>!fz
 | .rr _ _ _ _ _=>true
 | .itr _ _ _ _=>true
 | _=>false
def KI(e:TypeId)(n:Nat)(l:List T):O:=if n<1000000000 then .row false e n l else if n<2000000000 then .mp false e n l else .itr none e n l
structure St where
 np:Nat
 env:List D
 objs:List O
def zJ:Value→Option Addr
 | .pointer (some a)=>some a
 | .slice (some a) _ _=>some a
 | _=>none
def KJ(h:Value)(j:Nat)(y:Value):Prop:=∃a,zJ h=some a∧y=.pointer (some (a.add j))
def CutOf(h:Value)(n lo len:Nat)(tight:Bool)(y:Value):Prop:=
 ∃ao L c cc ao',h=.slice ao L c∧y=.slice ao' len cc∧lo+len≤L∧len≤cc∧lo+cc≤c∧(0<cc→ao'=ao.map (·.add (lo*n)))∧(tight=true→cc=len)
def blk:Value→Option Nat
 | .pointer (some a)=>some a.block
 | .slice (some a) _ c=>if c=0 then none else some a.block
 | .map (some g)=>some g
 | _=>none
def blkIn(h:Value)(b:Nat):Prop:=blk h=some b∨∃vs:Array Value,h=.tuple vs∧∃v∈vs.toList,blk v=some b
theorem blkIn.one{h:Value}{b:Nat}(hb:blkIn h b)(h1:h.oneCell'=true):blk h=some b:=by
 rcases hb with hb | ⟨vs,rfl,_⟩
 ·exact hb
 ·cases h1
theorem blkIn.of{h:Value}{b:Nat}(hb:blk h=some b):blkIn h b:=.inl hb
def rowAt(w:World)(e:TypeId)(n:Nat)(h:Value)(len:Nat)(xs:List Value):Prop:=
 xs.length=len*n∧(((h=.slice none 0 0∨∃a,h=.slice (some a) 0 0)∧len=0) ∨
  ∃g off cap cur,h=.slice (some ⟨g,off,none⟩) len cap∧0<cap∧w.heap[g]?=some (.cells cur e (0,0))∧len≤cap∧cap≤maxLen∧off+cap*n≤cur.size∧(cur.toList.drop off).take (len*n)=xs)
theorem rowAt.nil(w:World)(e:TypeId)(n:Nat):rowAt w e n (.slice none 0 0) 0 []:=⟨by simp,.inl ⟨.inl rfl,rfl⟩⟩
theorem rowAt.one{w:World}{e:TypeId}{n len:Nat}{h:Value}{xs:List Value}(hr:rowAt w e n h len xs):h.oneCell'=true:=by
 rcases hr.2 with⟨rfl | ⟨a,rfl⟩,_⟩ | ⟨g,off,cap,cur,rfl,_⟩ <;> rfl
@[irreducible] def Bm(m:List T):List T:=m.tail
@[irreducible] def Kh(m q:List T):List T:=m.take 1++q
def SH(e:TypeId)(m:List T):List T:=if e<1000000000 then m else Bm m
def NE(e:TypeId)(m q:List T):List T:=if e<1000000000 then q else Kh m q
theorem W9{e:TypeId}(h:e<1000000000)(m:List T):SH e m=m:=if_pos h
theorem XA{e:TypeId}(h0:1000000000≤e)(k:T)(m:List T):SH e (k::m)=m:=by unfold SH;rw[if_neg (Nat.not_lt.2 h0)];unfold Bm;rfl
def OutAt(w:World)(e:TypeId)(ho:Value)(l:List (List T))(xs:List Value):Prop:=
 (e<1000000000∧rowAt w e 1 ho l.length xs)∨(1000000000≤e∧∃(g:Nat) (es:Array MapEntry) (clock:Nat),ho=.map (some g)∧w.heap[g]?=some (.map es clock)∧es.size=l.length∧xs=es.toList.map (·.val) ∧
  (∀(i:Nat) m en,l[i]?=some m→es[i]?=some en→∃k m',m=k::m'∧kT (e-1000000000) k=some en.key)∧clock=es.size∧∀(i:Nat) en,es[i]?=some en→en.born=i)
theorem OutAt.len{w:World}{e:TypeId}{ho:Value}{l:List (List T)}{xs:List Value}(h:OutAt w e ho l xs):xs.length=l.length:=by
 rcases h with⟨_,h⟩ | ⟨_,g,es,clock,_,_,h1,rfl,_⟩
 ·simpa using h.1
 ·simpa using h1
theorem OutAt.row{w:World}{e:TypeId}{ho:Value}{l:List (List T)}{xs:List Value}(h:OutAt w e ho l xs){a:Addr}(ha:zJ ho=some a):e<1000000000∧rowAt w e 1 ho l.length xs:=by
 rcases h with h | ⟨_,g,es,clock,rfl,_⟩
 ·exact h
 ·cases ha
theorem OutAt.one{w:World}{e:TypeId}{ho:Value}{l:List (List T)}{xs:List Value}(h:OutAt w e ho l xs):ho.oneCell'=true:=by
 rcases h with⟨_,h⟩ | ⟨_,g,es,clock,rfl,_⟩
 ·exact h.one
 ·rfl
theorem OutAt.set{w:World}{e:TypeId}{ho:Value}{l:List (List T)}{xs:List Value}(h:OutAt w e ho l xs){i:Nat}{old:List T}(hi:l[i]?=some old)(q:List T):OutAt w e ho (l.set i (NE e old q)) xs:=by
 rcases h with⟨h0,h⟩ | ⟨h0,g,es,clock,rfl,h1,h2,rfl,h3,h4⟩
 ·exact .inl ⟨h0,by rw[List.length_set];exact h⟩
 ·refine .inr ⟨h0,g,es,clock,rfl,h1,by rw[List.length_set];exact h2,rfl,fun j m en e1 e2=>?_,h4⟩
  rw[List.getElem?_set] at e1
  split at e1
  ·rename_i hij
   subst hij
   split at e1
   ·cases e1
    obtain⟨k,m',rfl,h5⟩:=h3 i old en hi e2
    exact⟨k,q,by unfold NE;rw[if_neg (Nat.not_lt.2 h0)];unfold Kh;rfl,h5⟩
   ·cases e1
  ·exact h3 j m en e1 e2
theorem Gj{w:World}{e:TypeId}{ho:Value}{l:List (List T)}{xs:List Value}(h:OutAt w e ho l xs){i:Nat}{old:List T}(hi:l[i]?=some old)(q:List T):SH e (NE e old q)=q:=by
 rcases h with⟨h0,h⟩ | ⟨h0,g,es,clock,rfl,h1,h2,rfl,h3,h4⟩
 ·unfold SH NE;rw[if_pos h0,if_pos h0]
 ·have hlt:=(List.getElem?_eq_some_iff.1 hi).1
  obtain⟨k,m',rfl,h5⟩:=h3 i old _ hi (Array.getElem?_eq_getElem (by omega))
  unfold NE;rw[if_neg (Nat.not_lt.2 h0)];unfold Kh
  exact XA h0 k q
theorem rowAt.of_own{w:World}{b e n len:Nat}{h:Value}{xs:List Value}(ho:w.ownsRow b e n h len xs):rowAt w e n h len xs:=by
 refine⟨ho.1,?_⟩
 rcases ho.2 with⟨h1,h2⟩ | ⟨g,cap,cur,h1,_,h3,h4,h5,h6,h7⟩
 ·exact .inl ⟨.inl h1,h2⟩
 ·by_cases hc:cap=0
  ·subst hc
   have:len=0:=by omega
   subst this
   exact .inl ⟨.inr ⟨_,h1⟩,rfl⟩
  ·exact .inr ⟨g,0,cap,cur,h1,by omega,h3,h4,h5,by omega,by rw[List.drop_zero];exact h7⟩
theorem rowAt.cells{w:World}{e:TypeId}{n len:Nat}{h:Value}{xs:List Value}(hr:rowAt w e n h len xs){a:Addr}{len' cap:Nat}(ha:h=.slice (some a) len' cap)(i:Nat)(y:Value)(hi:xs[i]?=some y):w.cell? (a.add i)=some y:=by
 rcases hr.2 with⟨_,h0⟩ | ⟨g,off,cap',cur,h1,h2,h3,h4,h5,h6,h7⟩
 ·have h1:=hr.1
  rw[h0,Nat.zero_mul] at h1
  rw[List.eq_nil_of_length_eq_zero h1] at hi
  cases hi
 ·rw[ha] at h1
  cases h1
  have hadd:(⟨g,off,none⟩:Addr).add i=⟨g,off+i,none⟩:=by unfold Addr.add;split <;> simp_all
  rw[hadd]
  simp only[World.cell?,h3]
  rw[←h7,List.getElem?_take] at hi
  split at hi
  ·rw[List.getElem?_drop] at hi
   simpa using hi
  ·cases hi
def P0:List C→Option TypeId
 | .self t::_=>some t
 | _=>none
def HeadOK(l:List C)(g:Nat)(ys:Array Value)(ty:TypeId):Prop:=∀t,P0 l=some t→ty=t∧∃y,ys[0]?=some y∧(y=.pointer none∨y=.pointer (some ⟨g,0,none⟩))
theorem HeadOK.none{l:List C}{g:Nat}{ys:Array Value}{ty:TypeId}(h:P0 l=none):HeadOK l g ys ty:=fun t ht=>by rw[h] at ht;cases ht
def SelfLe(l m:List C):Prop:=∀(i:Nat) t,m[i]?=some (.self t)→l[i]?=some (.self t)
theorem vV{l:List C}{t:TypeId}:P0 l=some t↔l[0]?=some (.self t):=by
 match l with
 | []=>simp[P0]
 | c::l=>cases c <;> simp[P0]
theorem SelfLe.head{l m:List C}(h:SelfLe l m){g:Nat}{ys:Array Value}{ty:TypeId}(hh:HeadOK l g ys ty):HeadOK m g ys ty:=fun t ht=>hh t (vV.2 (h 0 t (vV.1 ht)))
theorem SelfLe.right{l m m':List C}(h:SelfLe (l++m) m'):SelfLe m (m'.drop l.length):=fun i t hi=>by
 rw[List.getElem?_drop] at hi
 have:=h _ t hi
 rwa[List.getElem?_append_right (Nat.le_add_right _ _),Nat.add_sub_cancel_left] at this
theorem SelfLe.left{l m m':List C}(h:SelfLe (l++m) m'):SelfLe l (m'.take l.length):=fun i t hi=>by
 rw[List.getElem?_take] at hi
 split at hi
 ·rename_i hlt
  have:=h _ t hi
  rwa[List.getElem?_append_left hlt] at this
 ·cases hi
section
variable (w:World) (X:Nat→Prop) (ρ:Nat→Option Value)
def PeIn(n:Nat)(x:T)(a:Addr):Prop:=
 x.cells.length=n∧∃ys:List Value,ys.length=n∧(∀(i:Nat) y,ys[i]?=some y→w.cell? (a.add i)=some y∧¬X a.block∧y.oneCell'=true) ∧
  ∀(i:Nat) t y,x.cells[i]?=some t→ys[i]?=some y→Rd w X t y
def RdC:C→Value→Prop
 | .t x,y=>Rd w X x y
 | .box k j,y=>∃h,ρ k=some h∧KJ h j y
 | .row k,y=>ρ k=some y
 | .pe n x j,y=>∃a,y=.pointer (some (a.add j))∧PeIn w X n x a
 | .elt k n i j,y=>∃h,ρ k=some h∧KJ h (i*n+j) y
 | .fn f caps,y=>∃hs:List Value,y=.func (.func f) #[] hs.toArray∧hs.length=caps.length∧∀(i:Nat) p v,caps[i]?=some p→hs[i]?=some v→∃h,ρ p.1=some h∧KJ h p.2 v
 | .self _,_=>True
 | .cut k n lo len tg,y=>∃h,ρ k=some h∧CutOf h n lo len tg y
 | .amb,y=>∃b,y=.bool b
 | .rk k,y=>∃vs:Array Value,ρ k=some (.tuple vs)∧vs[0]?=some y
 | .elr k i,y=>∃(vs:Array Value) (h:Value),ρ k=some (.tuple vs)∧vs[0]?=some h∧KJ h i y
 | .inn k i,y=>∃vs:Array Value,ρ k=some (.tuple vs)∧vs[i+1]?=some y
 | .top,_=>True
def RdC1(c:C)(y:Value):Prop:=c=.top∨(RdC w X ρ c y∧y.oneCell'=true)
def RdL(l:List C)(ys:List Value):Prop:=ys.length=l.length∧∀(i:Nat) c y,l[i]?=some c→ys[i]?=some y→RdC1 w X ρ c y
def RdS:S1→Value→Prop
 | .c c,y=>RdC1 w X ρ c y
 | .agg l,y=>∃cs:Array Value,y=.agg cs∧RdL w X ρ l cs.toList
def RdSs(l:List S1)(ys:List Value):Prop:=ys.length=l.length∧∀(i:Nat) s y,l[i]?=some s→ys[i]?=some y→RdS w X ρ s y
def RdD:D→Value→Prop
 | .s s,y=>RdS w X ρ s y
 | .tup l,y=>∃vs:Array Value,y=.tuple vs∧RdSs w X ρ l vs.toList
def RdT(l:List T)(ys:List Value):Prop:=ys.length=l.length∧∀(i:Nat) t y,l[i]?=some t→ys[i]?=some y→Rd w X t y∧y.oneCell'=true
def EntL(n:Nat)(l:List T)(es:Array MapEntry)(clock:Nat):Prop:=es.size=l.length ∧
 (∀(i:Nat) t e,l[i]?=some t→es[i]?=some e→∃k v,t=.agg [k,v]∧kT (n-1000000000) k=some e.key∧CG v e.val) ∧
 (∀(i:Nat) k v e,l[i]?=some (.agg [k,v])→es[i]?=some e→Rd w X v e.val)∧clock=es.size∧∀(i:Nat) e,es[i]?=some e→e.born=i
def EnR(n:Nat)(t:T)(e:MapEntry):Prop:=∃k v,t=.agg [k,v]∧kT (n-2000000000) k=some e.key∧CG v e.val∧Rd w X v e.val
def CL(es:Array MapEntry)(seen:Array Nat):List MapEntry:=es.toList.filter fun e=>!seen.contains e.born
def EnP(n:Nat)(l:List T)(L:List MapEntry):Prop:=∃L':List MapEntry,L'.Perm L∧L'.length=l.length∧∀(i:Nat) t e,l[i]?=some t→L'[i]?=some e→EnR w X n t e
def okI(cur:Option T)(n:Nat)(l:List T)(h:Value):Prop:=2000000000≤n∧∃g bm since seen clock es,h=.pointer (some ⟨g,0,none⟩)∧w.heap[g]?=some (.mapIter (some bm) since seen clock)∧w.heap[bm]?=some (.map es clock)∧¬X bm ∧
 (∀x∈es.toList,x.born<since)∧since≤clock∧(es.toList.map (·.born)).Nodup∧EnP w X n l (CL es seen) ∧
 ∀t,cur=some t→∃e∈es.toList,(∃sn:Array Nat,seen=sn.push e.born)∧EnR w X n t e
def okR(hole:Option Nat)(e e2:TypeId)(n:Nat)(l:List (List T))(h:Value):Prop:=(0<n∧n<1000000000)∧∃(ho:Value) (hs xs:List Value),h=.tuple (ho::hs).toArray ∧
 OutAt w e ho l xs∧hs.length=l.length∧(∀(i:Nat) y z,xs[i]?=some y→hs[i]?=some z→y.oneCell'=true∧(hole≠some i→y=z)) ∧
 (∀(i:Nat) m y,l[i]?=some m→hs[i]?=some y→Uni n (SH e m)∧∃ys,rowAt w e2 n y (SH e m).length ys∧RdT w X (flat (SH e m)) ys) ∧
 ∀(i j:Nat) y z b,(ho::hs)[i]?=some y→(ho::hs)[j]?=some z→blk y=some b→blk z=some b→i=j
def okO(h:Value):O→Prop
 | .box l=>∃g ys ty,h=.pointer (some ⟨g,0,none⟩)∧w.heap[g]?=some (.cells ys ty (0,0))∧HeadOK l g ys ty∧RdL w X ρ l ys.toList
 | .fbox l=>∃g ys ty,h=.pointer (some ⟨g,0,none⟩)∧w.heap[g]?=some (.cells ys ty (0,0))∧RdL w X ρ l ys.toList∧¬X g
 | .mp fz e n l=>1000000000≤n∧∃g es clock,h=.map (some g)∧w.heap[g]?=some (.map es clock)∧EntL w X n l es clock∧(fz=true→¬X g)
 | .row fz e n l=>(0<n∧n<1000000000)∧Uni n l∧(∃xs,rowAt w e n h l.length xs∧RdT w X (flat l) xs)∧(fz=true→∀b,blk h=some b→¬X b)
 | .rr hole e e2 n l=>okR w X hole e e2 n l h
 | .itr cur _ n l=>okI w X cur n l h
 | .fwd k=>∃vs vs':Array Value,h=.tuple vs∧ρ k=some (.tuple vs')∧vs'[0]?=vs[0]?
 | _=>True
end
abbrev fN:=Nat→Option Value
structure Base where
 rho:fN
 ex:List (D×Value)
def Has(objs:List O)(ρ:fN)(k b:Nat):Prop:=∃(o:O) (h:Value),objs[k]?=some o∧o.live=true∧ρ k=some h∧blkIn h b
def r6(objs:List O)(ρ:fN)(b:Nat):Prop:=∃k,Has objs ρ k b
def XB(objs:List O)(ρ:fN)(Xc:Nat→Prop)(b:Nat):Prop:=r6 objs ρ b∨Xc b
def Oh(objs:List O)(ρ:fN):Prop:=∀(k k' b:Nat),Has objs ρ k b→Has objs ρ k' b→k=k'
def Mp(w:World)(X:Nat→Prop)(ρ:fN)(k:Nat):O→Prop
 | .dead=>True
 | .fresh=>ρ k=none
 | o=>∃h,ρ k=some h∧okO w X ρ h o
structure Rel (w0:World) (F Xc:Nat→Prop) (ρ0:Base) (ρ:fN) (st:St) (a:Act) (w:World):Prop where
 len:a.tmps.size=st.env.length
 env:∀(i:Nat) d y,st.env[i]?=some d→a.tmps[i]?=some y→RdD w (XB st.objs ρ Xc) ρ d y
 objs:∀(k:Nat) o,st.objs[k]?=some o→Mp w (XB st.objs ρ Xc) ρ k o
 sep:Oh st.objs ρ
 own:∀b,r6 st.objs ρ b→w0.heap.size≤b∨F b
 par:∀k,k<st.np→ρ k=ρ0.rho k
 defers:a.defers=[]
 frame:Stp F w0 w
 xcl:∀b,Xc b→b<w0.heap.size
 xc:∀b,r6 st.objs ρ b→¬Xc b
 ext:∀p∈ρ0.ex,RdD w (XB st.objs ρ Xc) ρ p.1 p.2
def Rle(ρ ρ':fN):Prop:=∀k h,ρ k=some h→ρ' k=some h
theorem Rle.refl(ρ:fN):Rle ρ ρ:=fun _ _ h=>h
section
variable {w w':World} {X X' Y:Nat→Prop} {ρ ρ':fN}
theorem PeIn.step{n:Nat}{x:T}{a:Addr}(h:PeIn w X n x a)(hs:Stp Y w w')(hY:∀b,Y b→X b)(hX:∀b,X' b→X b∨w.heap.size≤b):PeIn w' X' n x a:=by
 obtain⟨h0,ys,hl,hc,ht⟩:=h
 refine⟨h0,ys,hl,fun i y hi=>?_,fun i t y h1 h2=>(ht i t y h1 h2).step hs hY hX⟩
 obtain⟨h1,h2,h3⟩:=hc i y hi
 have hlt:=World.block_lt_of_cell? w _ h1
 rw[dH] at hlt
 refine⟨hs.cell h1 (by rw[dH];exact fun hb=>h2 (hY _ hb)),fun hx=>?_,h3⟩
 rcases hX _ hx with h | h
 ·exact h2 h
 ·omega
theorem RdC.step{c:C}{y:Value}(h:RdC w X ρ c y)(hs:Stp Y w w')(hY:∀b,Y b→X b)(hX:∀b,X' b→X b∨w.heap.size≤b)(hρ:Rle ρ ρ'):RdC w' X' ρ' c y:=by
 cases c with
 | t x=>exact Rd.step h hs hY hX
 | box k j=>obtain⟨v,h1,h2⟩:=h;exact⟨v,hρ _ _ h1,h2⟩
 | row k=>exact hρ _ _ h
 | pe n x j=>obtain⟨a,h1,h2⟩:=h;exact⟨a,h1,h2.step hs hY hX⟩
 | elt k n i j=>obtain⟨v,h1,h2⟩:=h;exact⟨v,hρ _ _ h1,h2⟩
 | fn f caps=>
  obtain⟨hs',h1,h2,h3⟩:=h
  refine⟨hs',h1,h2,fun i p v hp hv=>?_⟩
  obtain⟨v',e1,e2⟩:=h3 i p v hp hv
  exact⟨v',hρ _ _ e1,e2⟩
 | self t=>trivial
 | cut k n lo len tg=>obtain⟨v,h1,h2⟩:=h;exact⟨v,hρ _ _ h1,h2⟩
 | amb=>exact h
 | rk k=>obtain⟨vs,h1,h2⟩:=h;exact⟨vs,hρ _ _ h1,h2⟩
 | elr k i=>obtain⟨vs,v,h1,h2,h3⟩:=h;exact⟨vs,v,hρ _ _ h1,h2,h3⟩
 | inn k i=>obtain⟨vs,h1,h2⟩:=h;exact⟨vs,hρ _ _ h1,h2⟩
 | top=>trivial
theorem RdC1.step{c:C}{y:Value}(h:RdC1 w X ρ c y)(hs:Stp Y w w')(hY:∀b,Y b→X b)(hX:∀b,X' b→X b∨w.heap.size≤b)(hρ:Rle ρ ρ'):RdC1 w' X' ρ' c y:=
 h.imp id fun⟨h1,h2⟩=>⟨h1.step hs hY hX hρ,h2⟩
theorem RdL.step{l:List C}{ys:List Value}(h:RdL w X ρ l ys)(hs:Stp Y w w')(hY:∀b,Y b→X b)(hX:∀b,X' b→X b∨w.heap.size≤b)(hρ:Rle ρ ρ'):RdL w' X' ρ' l ys:=
 ⟨h.1,fun i c y h1 h2=>(h.2 i c y h1 h2).step hs hY hX hρ⟩
theorem RdS.step{s:S1}{y:Value}(h:RdS w X ρ s y)(hs:Stp Y w w')(hY:∀b,Y b→X b)(hX:∀b,X' b→X b∨w.heap.size≤b)(hρ:Rle ρ ρ'):RdS w' X' ρ' s y:=by
 cases s with
 | c c=>exact RdC1.step h hs hY hX hρ
 | agg l=>obtain⟨cs,e,hl⟩:=h;exact⟨cs,e,hl.step hs hY hX hρ⟩
theorem RdSs.step{l:List S1}{ys:List Value}(h:RdSs w X ρ l ys)(hs:Stp Y w w')(hY:∀b,Y b→X b)(hX:∀b,X' b→X b∨w.heap.size≤b)(hρ:Rle ρ ρ'):RdSs w' X' ρ' l ys:=
 ⟨h.1,fun i c y h1 h2=>(h.2 i c y h1 h2).step hs hY hX hρ⟩
theorem RdD.step{d:D}{y:Value}(h:RdD w X ρ d y)(hs:Stp Y w w')(hY:∀b,Y b→X b)(hX:∀b,X' b→X b∨w.heap.size≤b)(hρ:Rle ρ ρ'):RdD w' X' ρ' d y:=by
 cases d with
 | s s=>exact RdS.step h hs hY hX hρ
 | tup l=>obtain⟨vs,e,hl⟩:=h;exact⟨vs,e,hl.step hs hY hX hρ⟩
theorem RdT.step{l:List T}{ys:List Value}(h:RdT w X l ys)(hs:Stp Y w w')(hY:∀b,Y b→X b)(hX:∀b,X' b→X b∨w.heap.size≤b):RdT w' X' l ys:=
 ⟨h.1,fun i t y h1 h2=>⟨(h.2 i t y h1 h2).1.step hs hY hX,(h.2 i t y h1 h2).2⟩⟩
theorem EntL.step{n clock:Nat}{l:List T}{es:Array MapEntry}(h:EntL w X n l es clock)(hs:Stp Y w w')(hY:∀b,Y b→X b)(hX:∀b,X' b→X b∨w.heap.size≤b):EntL w' X' n l es clock:=
 ⟨h.1,h.2.1,fun i k v e h1 h2=>(h.2.2.1 i k v e h1 h2).step hs hY hX,h.2.2.2⟩
theorem rowAt.step{e:TypeId}{n len:Nat}{h:Value}{xs:List Value}(hr:rowAt w e n h len xs)(hs:Stp Y w w')(hb:∀b,blk h=some b→¬Y b):rowAt w' e n h len xs:=by
 refine⟨hr.1,?_⟩
 rcases hr.2 with hn | ⟨g,off,cap,cur,e',hb',hg,jB⟩
 ·exact .inl hn
 ·have hlt:g<w.heap.size:=(Array.getElem?_eq_some_iff.1 hg).1
  exact .inr ⟨g,off,cap,cur,e',hb',(hs.blk g hlt (hb g (by simp[e',blk];omega))).trans hg,jB⟩
theorem rowAt.lt{e:TypeId}{n len:Nat}{h:Value}{xs:List Value}(hr:rowAt w e n h len xs){b:Nat}(hb:blk h=some b):b<w.heap.size:=by
 rcases hr.2 with⟨hn | ⟨a,hn⟩,_⟩ | ⟨g,off,cap,cur,e',hb',hg,jB⟩
 ·simp[hn,blk] at hb
 ·simp[hn,blk] at hb
 ·simp[e',blk] at hb
  exact hb.2▸(Array.getElem?_eq_some_iff.1 hg).1
theorem OutAt.step{e:TypeId}{ho:Value}{l:List (List T)}{xs:List Value}(h:OutAt w e ho l xs)(hs:Stp Y w w')(hb:∀b,blk ho=some b→¬Y b):OutAt w' e ho l xs:=by
 rcases h with⟨h0,h⟩ | ⟨h0,g,es,clock,rfl,h1,h2⟩
 ·exact .inl ⟨h0,h.step hs hb⟩
 ·exact .inr ⟨h0,g,es,clock,rfl,(hs.blk g (Array.getElem?_eq_some_iff.1 h1).1 (hb g rfl)).trans h1,h2⟩
theorem OutAt.lt{e:TypeId}{ho:Value}{l:List (List T)}{xs:List Value}(h:OutAt w e ho l xs){b:Nat}(hb:blk ho=some b):b<w.heap.size:=by
 rcases h with⟨h0,h⟩ | ⟨h0,g,es,clock,rfl,h1,h2⟩
 ·exact h.lt hb
 ·cases hb;exact(Array.getElem?_eq_some_iff.1 h1).1
theorem okR.step{hole:Option Nat}{e e2:TypeId}{n:Nat}{l:List (List T)}{h:Value}(ho:okR w X hole e e2 n l h)(hs:Stp Y w w')(hY:∀b,Y b→X b)(hX:∀b,X' b→X b∨w.heap.size≤b)
 (hb:∀b,blkIn h b→¬Y b):okR w' X' hole e e2 n l h:=by
 obtain⟨h0,v,vs,xs,rfl,h1,h2,h3,h4,h5⟩:=ho
 have hin:∀y∈v::vs,∀b,blk y=some b→¬Y b:=fun y hy b hyb=>hb b (.inr ⟨_,rfl,y,by simpa using hy,hyb⟩)
 refine⟨h0,v,vs,xs,rfl,h1.step hs (hin v (by simp)),h2,h3,fun i m y e1 e3=>?_,h5⟩
 obtain⟨q1,ys,q2,q3⟩:=h4 i m y e1 e3
 exact⟨q1,ys,q2.step hs (hin y (by simp[List.mem_of_getElem? e3])),q3.step hs hY hX⟩
theorem okR.lt{hole:Option Nat}{e e2:TypeId}{n:Nat}{l:List (List T)}{h:Value}(ho:okR w X hole e e2 n l h){b:Nat}(hb:blkIn h b):b<w.heap.size:=by
 obtain⟨h0,v,vs,xs,rfl,h1,h2,h3,h4,h5⟩:=ho
 rcases hb with hb | ⟨us,hus,y,hy,hyb⟩
 ·cases hb
 ·cases hus
  simp only[List.mem_cons] at hy
  rcases hy with rfl | hy
  ·exact h1.lt hyb
  ·obtain⟨i,hi,rfl⟩:=List.getElem_of_mem hy
   have hlt:i<l.length:=by omega
   obtain⟨_,ys,q2,_⟩:=h4 i _ _ (List.getElem?_eq_getElem hlt) (List.getElem?_eq_getElem hi)
   exact q2.lt hyb
theorem EnR.step{n:Nat}{t:T}{e:MapEntry}(h:EnR w X n t e)(hs:Stp Y w w')(hY:∀b,Y b→X b)(hX:∀b,X' b→X b∨w.heap.size≤b):EnR w' X' n t e:=by
 obtain⟨k,v,h1,h2,h3,h4⟩:=h
 exact⟨k,v,h1,h2,h3,h4.step hs hY hX⟩
theorem EnP.step{n:Nat}{l:List T}{L:List MapEntry}(h:EnP w X n l L)(hs:Stp Y w w')(hY:∀b,Y b→X b)(hX:∀b,X' b→X b∨w.heap.size≤b):EnP w' X' n l L:=by
 obtain⟨L',h1,h2,h3⟩:=h
 exact⟨L',h1,h2,fun i t e e1 e2=>(h3 i t e e1 e2).step hs hY hX⟩
theorem okI.step{cur:Option T}{n:Nat}{l:List T}{h:Value}(ho:okI w X cur n l h)(hs:Stp Y w w')(hY:∀b,Y b→X b)(hX:∀b,X' b→X b∨w.heap.size≤b)
 (hb:∀b,blk h=some b→¬Y b):okI w' X' cur n l h:=by
 obtain⟨h0,g,bm,since,seen,clock,es,rfl,h1,h2,h3,h4,h5,h6,h7,h8⟩:=ho
 have hg:g<w.heap.size:=(Array.getElem?_eq_some_iff.1 h1).1
 have hm:bm<w.heap.size:=(Array.getElem?_eq_some_iff.1 h2).1
 refine⟨h0,g,bm,since,seen,clock,es,rfl,(hs.blk g hg (hb g rfl)).trans h1,(hs.blk bm hm fun hy=>h3 (hY _ hy)).trans h2,fun hx=>?_,h4,h5,h6,h7.step hs hY hX,fun t ht=>?_⟩
 ·rcases hX _ hx with h | h
  ·exact h3 h
  ·omega
 ·obtain⟨e,e1,e2,e3⟩:=h8 t ht
  exact⟨e,e1,e2,e3.step hs hY hX⟩
theorem okI.lt{cur:Option T}{n:Nat}{l:List T}{h:Value}(ho:okI w X cur n l h){b:Nat}(hb:blk h=some b):b<w.heap.size:=by
 obtain⟨h0,g,bm,since,seen,clock,es,rfl,h1,_⟩:=ho
 simp only[blk,Option.some.injEq] at hb
 exact hb▸(Array.getElem?_eq_some_iff.1 h1).1
theorem okO.step{h:Value}{o:O}(ho:okO w X ρ h o)(hs:Stp Y w w')(hY:∀b,Y b→X b)(hX:∀b,X' b→X b∨w.heap.size≤b)(hρ:Rle ρ ρ')
 (hb:∀b,blkIn h b→¬Y b):okO w' X' ρ' h o:=by
 replace hb':=hb
 replace hb:∀b,blk h=some b→¬Y b:=fun b e=>hb b (.inl e)
 cases o with
 | rr hole e e2 n l=>exact okR.step ho hs hY hX hb'
 | itr cur e n l=>exact okI.step ho hs hY hX hb
 | fwd k=>obtain⟨vs,vs',e1,e2,e3⟩:=ho;exact⟨vs,vs',e1,hρ _ _ e2,e3⟩
 | box l=>
  obtain⟨g,ys,ty,e,hg,hh,hl⟩:=ho
  have hlt:g<w.heap.size:=(Array.getElem?_eq_some_iff.1 hg).1
  exact⟨g,ys,ty,e,(hs.blk g hlt (hb g (by simp[e,blk]))).trans hg,hh,hl.step hs hY hX hρ⟩
 | row fz e n l=>
  obtain⟨h0,hu,⟨xs,hown,hr⟩,hf⟩:=ho
  refine⟨h0,hu,⟨xs,⟨hown.1,?_⟩,hr.step hs hY hX⟩,fun hz b hbb hx=>?_⟩
  ·rcases hown.2 with hn | ⟨g,off,cap,cur,e',hb',hg,jB⟩
   ·exact .inl hn
   ·have hlt:g<w.heap.size:=(Array.getElem?_eq_some_iff.1 hg).1
    exact .inr ⟨g,off,cap,cur,e',hb',(hs.blk g hlt (hb g (by simp[e',blk];omega))).trans hg,jB⟩
  ·rcases hX b hx with hx | hx
   ·exact hf hz b hbb hx
   ·rcases hown.2 with⟨hn | ⟨a,hn⟩,_⟩ | ⟨g,off,cap,cur,e',hb',hg,jB⟩
    ·simp[hn,blk] at hbb
    ·simp[hn,blk] at hbb
    ·have hlt:g<w.heap.size:=(Array.getElem?_eq_some_iff.1 hg).1
     simp[e',blk] at hbb
     omega
 | mp fz e n l=>
  obtain⟨h0,g,es,clock,e',hg,he,hf⟩:=ho
  have hlt:g<w.heap.size:=(Array.getElem?_eq_some_iff.1 hg).1
  refine⟨h0,g,es,clock,e',(hs.blk g hlt (hb g (by simp[e',blk]))).trans hg,he.step hs hY hX,fun hz hx=>?_⟩
  rcases hX g hx with hx | hx
  ·exact hf hz hx
  ·omega
 | fbox l=>
  obtain⟨g,ys,ty,e',hg,hl,hf⟩:=ho
  have hlt:g<w.heap.size:=(Array.getElem?_eq_some_iff.1 hg).1
  refine⟨g,ys,ty,e',(hs.blk g hlt (hb g (by simp[e',blk]))).trans hg,hl.step hs hY hX hρ,fun hx=>?_⟩
  rcases hX g hx with hx | hx
  ·exact hf hx
  ·omega
 | dead=>trivial
 | fresh=>trivial
theorem okO.one{h:Value}{o:O}(ho:okO w X ρ h o)(hl:o.live=true):h.oneCell'=true∨∃hole e e2 n l,o=.rr hole e e2 n l:=by
 cases o with
 | box l=>obtain⟨g,ys,ty,e,hg,_⟩:=ho;subst e;exact .inl rfl
 | row fz e n l=>obtain⟨_,_,⟨xs,hown,_⟩,_⟩:=ho;exact .inl hown.one
 | mp fz e n l=>obtain⟨_,g,es,clock,e',_⟩:=ho;subst e';exact .inl rfl
 | rr hole e e2 n l=>exact .inr ⟨_,_,_,_,_,rfl⟩
 | itr cur e n l=>obtain⟨_,g,bm,since,seen,clock,es,e',_⟩:=ho;subst e';exact .inl rfl
 | fbox l=>simp[O.live] at hl
 | fwd k=>simp[O.live] at hl
 | dead=>simp[O.live] at hl
 | fresh=>simp[O.live] at hl
theorem okO.lt{h:Value}{o:O}(ho:okO w X ρ h o)(hl:o.live=true){b:Nat}(hb:blkIn h b):b<w.heap.size:=by
 rcases ho.one hl with h1 | ⟨_,_,_,_,_,rfl⟩
 case inr=>exact okR.lt ho hb
 replace hb:=hb.one h1
 cases o with
 | rr hole e e2 n l=>obtain⟨_,v,vs,xs,rfl,_⟩:=ho;cases h1
 | itr cur e n l=>exact okI.lt ho hb
 | fwd k=>simp[O.live] at hl
 | box l=>
  obtain⟨g,ys,ty,e,hg,_⟩:=ho
  simp[e,blk] at hb
  exact hb▸(Array.getElem?_eq_some_iff.1 hg).1
 | row fz e n l=>
  obtain⟨_,_,⟨xs,hown,_⟩,_⟩:=ho
  rcases hown.2 with⟨hn | ⟨a,hn⟩,_⟩ | ⟨g,off,cap,cur,e',hb',hg,jB⟩
  ·simp[hn,blk] at hb
  ·simp[hn,blk] at hb
  ·simp[e',blk] at hb
   exact hb.2▸(Array.getElem?_eq_some_iff.1 hg).1
 | mp fz e n l=>
  obtain⟨_,g,es,clock,e',hg,_⟩:=ho
  simp[e',blk] at hb
  exact hb▸(Array.getElem?_eq_some_iff.1 hg).1
 | fbox l=>simp[O.live] at hl
 | dead=>simp[O.live] at hl
 | fresh=>simp[O.live] at hl
end
theorem Has.mut{objs:List O}{ρ:fN}{k b:Nat}(h:Has objs ρ k b):r6 objs ρ b:=⟨k,h⟩
theorem XB.mut{objs:List O}{ρ:fN}{Xc:Nat→Prop}{b:Nat}(h:r6 objs ρ b):XB objs ρ Xc b:=.inl h
section
variable {w0 w w':World} {F Xc:Nat→Prop} {ρ0:Base} {ρ ρ':fN} {st:St} {a:Act}
theorem Rel.lt(h:Rel w0 F Xc ρ0 ρ st a w){b:Nat}(hb:r6 st.objs ρ b):b<w.heap.size:=by
 obtain⟨k,o,v,h1,h2,h3,h4⟩:=hb
 have:=h.objs k o h1
 cases o with
 | dead=>simp[O.live] at h2
 | fbox l=>simp[O.live] at h2
 | fresh=>simp[O.live] at h2
 | fwd k=>simp[O.live] at h2
 | rr hole e e2 n l=>obtain⟨v',e1,e2⟩:=this;rw[h3] at e1;cases e1;exact okO.lt (o:=.rr hole e _ n l) e2 h2 h4
 | box l=>obtain⟨v',e1,e2⟩:=this;rw[h3] at e1;cases e1;exact e2.lt h2 h4
 | row fz e n l=>obtain⟨v',e1,e2⟩:=this;rw[h3] at e1;cases e1;exact e2.lt h2 h4
 | mp fz e n l=>obtain⟨v',e1,e2⟩:=this;rw[h3] at e1;cases e1;exact e2.lt h2 h4
 | itr cur e n l=>obtain⟨v',e1,e2⟩:=this;rw[h3] at e1;cases e1;exact okO.lt (ρ:=ρ) (o:=.itr cur e n l) e2 h2 h4
def St.put(st:St)(dst:Option Nat)(d:D):St:=match dst with
 | some i=>{ st with env:=st.env.set i d }
 | none=>st
theorem Rel.put(h:Rel w0 F Xc ρ0 ρ st a w)(dst:Option Nat){d:D}{v:Value}(hd:RdD w (XB st.objs ρ Xc) ρ d v):Rel w0 F Xc ρ0 ρ (st.put dst d) (a.put dst v) w:=by
 cases dst with
 | none=>exact h
 | some j=>
  refine⟨by simpa[St.put,Act.put] using h.len,fun i d' y h1 h2=>?_,h.objs,h.sep,h.own,h.par,h.defers,h.frame,h.xcl,h.xc,h.ext⟩
  simp only[St.put,Act.put,List.getElem?_set,Array.getElem?_setIfInBounds] at h1 h2
  have hlen:=h.len
  by_cases hij:j=i
  ·subst hij
   simp only[if_true] at h1 h2
   split at h1
   ·rename_i hl
    rw[if_pos (by omega)] at h2
    cases h1;cases h2
    exact hd
   ·cases h1
  ·simp only[hij,if_false] at h1 h2
   exact h.env i d' y h1 h2
theorem Rel.world(h:Rel w0 F Xc ρ0 ρ st a w)(hs:Stp (fun _=>False) w w'):Rel w0 F Xc ρ0 ρ st a w':=by
 refine⟨h.len,fun i d y h1 h2=>(h.env i d y h1 h2).step hs (fun _ h=>h.elim) (fun _ hb=>.inl hb) (.refl _),fun k o ho=>?_,h.sep,h.own,h.par,h.defers,?_,h.xcl,h.xc,fun p hp=>(h.ext p hp).step hs (fun _ h=>h.elim) (fun _ hb=>.inl hb) (.refl _)⟩
 ·have:=h.objs k o ho
  cases o with
  | dead=>trivial
  | fresh=>exact this
  | box l=>obtain⟨v,e1,e2⟩:=this;exact⟨v,e1,e2.step hs (fun _ h=>h.elim) (fun _ hb=>.inl hb) (.refl _) (fun _ _ h=>h)⟩
  | row fz e n l=>obtain⟨v,e1,e2⟩:=this;exact⟨v,e1,e2.step hs (fun _ h=>h.elim) (fun _ hb=>.inl hb) (.refl _) (fun _ _ h=>h)⟩
  | mp fz e n l=>obtain⟨v,e1,e2⟩:=this;exact⟨v,e1,e2.step hs (fun _ h=>h.elim) (fun _ hb=>.inl hb) (.refl _) (fun _ _ h=>h)⟩
  | fbox l=>obtain⟨v,e1,e2⟩:=this;exact⟨v,e1,e2.step hs (fun _ h=>h.elim) (fun _ hb=>.inl hb) (.refl _) (fun _ _ h=>h)⟩
  | rr hole e e2 n l=>obtain⟨v,e1,e2⟩:=this;exact⟨v,e1,okO.step (o:=.rr hole e _ n l) e2 hs (fun _ h=>h.elim) (fun _ hb=>.inl hb) (.refl _) (fun _ _ h=>h)⟩
  | itr cur e n l=>obtain⟨v,e1,e2⟩:=this;exact⟨v,e1,okO.step (ρ:=ρ) (ρ':=ρ) (o:=.itr cur e n l) e2 hs (fun _ h=>h.elim) (fun _ hb=>.inl hb) (.refl _) (fun _ _ h=>h)⟩
  | fwd k=>exact this
 ·exact h.frame.trans (hs.mono (fun _ h=>h.elim))
theorem Rel.change{Y:Nat→Prop}(h:Rel w0 F Xc ρ0 ρ st a w)(objs':List O)(ρ':fN)(K:Nat→Prop)(hs:Stp Y w w')
 (hout:∀j,¬K j→objs'[j]?=st.objs[j]?∧ρ' j=ρ j) (hρ:Rle ρ ρ')
 (hY:∀b,Y b→∃j,K j∧Has st.objs ρ j b)
 (hnew:∀j b,K j→Has objs' ρ' j b→(∃j',K j'∧Has st.objs ρ j' b)∨w.heap.size≤b)
 (hsep:∀j j' b,K j→K j'→Has objs' ρ' j b→Has objs' ρ' j' b→j=j')
 (hok:(∀b,XB objs' ρ' Xc b→XB st.objs ρ Xc b∨w.heap.size≤b)→∀j o,K j→objs'[j]?=some o→Mp w' (XB objs' ρ' Xc) ρ' j o)
 (hpar:∀j,j<st.np→ρ' j=ρ j):Rel w0 F Xc ρ0 ρ' { st with objs:=objs' } a w':=by
 have hYX:∀b,Y b→XB st.objs ρ Xc b:=fun b hb=>by
  obtain⟨j,_,hj⟩:=hY b hb
  exact .inl ⟨j,hj⟩
 have hHas:∀j b,¬K j→Has objs' ρ' j b→Has st.objs ρ j b:=fun j b hj hh=>by
  obtain⟨o,v,h1,h2,h3,h4⟩:=hh
  obtain⟨e1,e2⟩:=hout j hj
  exact⟨o,v,e1▸h1,h2,e2▸h3,h4⟩
 have hX:∀b,XB objs' ρ' Xc b→XB st.objs ρ Xc b∨w.heap.size≤b:=fun b hb=>by
  rcases hb with⟨j,hj⟩ | hb
  ·by_cases hK:K j
   ·rcases hnew j b hK hj with⟨j',_,hh⟩ | hh
    ·exact .inl (.inl ⟨j',hh⟩)
    ·exact .inr hh
   ·exact .inl (.inl ⟨j,hHas j b hK hj⟩)
  ·exact .inl (.inr hb)
 refine⟨h.len,fun i d y h1 h2=>(h.env i d y h1 h2).step hs hYX hX hρ,fun j o ho=>?_,fun j j' b hj hj'=>?_,fun b hb=>?_,fun k hk=>(hpar k hk).trans (h.par k hk),h.defers,?_,h.xcl,fun b hb hx=>?_,fun p hp=>(h.ext p hp).step hs hYX hX hρ⟩
 ·by_cases hK:K j
  ·exact hok hX j o hK ho
  ·obtain⟨e1,e2⟩:=hout j hK
   have ho':st.objs[j]?=some o:=e1▸ho
   have:=h.objs j o ho'
   cases o with
   | dead=>trivial
   | fresh=>exact e2.trans this
   | box l=>
    obtain⟨v,f1,f2⟩:=this
    refine⟨v,hρ _ _ f1,f2.step hs hYX hX hρ fun b hb hy=>?_⟩
    obtain⟨j',hK',hj'⟩:=hY b hy
    have:=h.sep j j' b ⟨_,v,ho',rfl,f1,hb⟩ hj'
    exact hK (this▸hK')
   | row fz e n l=>
    obtain⟨v,f1,f2⟩:=this
    refine⟨v,hρ _ _ f1,f2.step hs hYX hX hρ fun b hb hy=>?_⟩
    obtain⟨j',hK',hj'⟩:=hY b hy
    cases fz with
    | false=>
     have:=h.sep j j' b ⟨_,v,ho',rfl,f1,hb⟩ hj'
     exact hK (this▸hK')
    | true=>exact f2.2.2.2 rfl b (hb.one (by obtain⟨xs,hown,_⟩:=f2.2.2.1;exact hown.one)) (.inl ⟨j',hj'⟩)
   | mp fz e n l=>
    obtain⟨v,f1,f2⟩:=this
    refine⟨v,hρ _ _ f1,f2.step hs hYX hX hρ fun b hb hy=>?_⟩
    obtain⟨j',hK',hj'⟩:=hY b hy
    cases fz with
    | false=>
     have:=h.sep j j' b ⟨_,v,ho',rfl,f1,hb⟩ hj'
     exact hK (this▸hK')
    | true=>
     obtain⟨_,g,es,clock,e',hg,_,hf⟩:=f2
     replace hb:=hb.one (by rw[e'];rfl)
     simp[e',blk] at hb
     subst hb
     exact hf rfl (.inl ⟨j',hj'⟩)
   | fbox l=>
    obtain⟨v,f1,f2⟩:=this
    refine⟨v,hρ _ _ f1,f2.step hs hYX hX hρ fun b hb hy=>?_⟩
    obtain⟨j',hK',hj'⟩:=hY b hy
    obtain⟨g,ys,ty,e',hg,_,hf⟩:=f2
    replace hb:=hb.one (by rw[e'];rfl)
    simp[e',blk] at hb
    subst hb
    exact hf (.inl ⟨j',hj'⟩)
   | rr hole e e2 n l=>
    obtain⟨v,f1,f2⟩:=this
    refine⟨v,hρ _ _ f1,okO.step (o:=.rr hole e e2 n l) (ρ:=ρ) f2 hs hYX hX hρ fun b hb hy=>?_⟩
    obtain⟨j',hK',hj'⟩:=hY b hy
    have:=h.sep j j' b ⟨_,v,ho',rfl,f1,hb⟩ hj'
    exact hK (this▸hK')
   | itr cur e n l=>
    obtain⟨v,f1,f2⟩:=this
    refine⟨v,hρ _ _ f1,okO.step (o:=.itr cur e n l) (ρ:=ρ) f2 hs hYX hX hρ fun b hb hy=>?_⟩
    obtain⟨j',hK',hj'⟩:=hY b hy
    have:=h.sep j j' b ⟨_,v,ho',rfl,f1,hb⟩ hj'
    exact hK (this▸hK')
   | fwd k=>
    obtain⟨v,f1,vs,vs',g1,g2,g3⟩:=this
    exact⟨v,hρ _ _ f1,vs,vs',g1,hρ _ _ g2,g3⟩
 ·by_cases hK:K j <;> by_cases hK':K j'
  ·exact hsep j j' b hK hK' hj hj'
  ·exfalso
   have h2:=hHas j' b hK' hj'
   rcases hnew j b hK hj with⟨j'',hK'',hh⟩ | hh
   ·have:=h.sep j'' j' b hh h2
    exact hK' (this▸hK'')
   ·have:=h.lt h2.mut
    omega
  ·exfalso
   have h2:=hHas j b hK hj
   rcases hnew j' b hK' hj' with⟨j'',hK'',hh⟩ | hh
   ·have:=h.sep j'' j b hh h2
    exact hK (this▸hK'')
   ·have:=h.lt h2.mut
    omega
  ·exact h.sep j j' b (hHas j b hK hj) (hHas j' b hK' hj')
 ·obtain⟨j,hj⟩:=hb
  by_cases hK:K j
  ·rcases hnew j b hK hj with⟨j',_,hh⟩ | hh
   ·exact h.own b ⟨j',hh⟩
   ·exact .inl (Nat.le_trans h.frame.size hh)
  ·exact h.own b ⟨j,hHas j b hK hj⟩
 ·refine h.frame.after hs fun b hb hlt=>?_
  obtain⟨j,_,hj⟩:=hY b hb
  rcases h.own b ⟨j,hj⟩ with hh | hh
  ·omega
  ·exact hh
 ·obtain⟨j,hj⟩:=hb
  have hlt:=h.xcl b hx
  have hsz:=h.frame.size
  by_cases hK:K j
  ·rcases hnew j b hK hj with⟨j',_,hh⟩ | hh
   ·exact h.xc b ⟨j',hh⟩ hx
   ·omega
  ·exact h.xc b ⟨j,hHas j b hK hj⟩ hx
def constD:Value→D
 | .agg cs=>if cs.all (fun v=>v.oneCell') then .s (.agg (cs.toList.map fun v=>.t (.v v))) else D.top
 | .tuple _=>D.top
 | v=>.s (.c (.t (.v v)))
def ev(st:St):Operand→D
 | .tmp t=>st.env.getD t D.top
 | .const v=>constD v
 | .global _=>D.top
 | .func f=>.s (.c (.t (.v (.func (.func f) #[] #[]))))
theorem RdD.top_{X:Nat→Prop}(y:Value):RdD w X ρ D.top y:=.inl rfl
theorem RdD.one{X:Nat→Prop}{c:C}{y:Value}(h:RdC w X ρ c y)(h1:y.oneCell'=true):RdD w X ρ (.s (.c c)) y:=.inr ⟨h,h1⟩
theorem RdD.val{X:Nat→Prop}{y:Value}(h1:y.oneCell'=true):RdD w X ρ (.s (.c (.t (.v y)))) y:=.one (.v y) h1
theorem RdD.constD{X:Nat→Prop}(v:Value):RdD w X ρ (constD v) v:=by
 unfold Eng.constD
 split
 ·rename_i cs
  split
  ·rename_i hall
   refine⟨cs,rfl,by simp,fun i c y h1 h2=>?_⟩
   rw[List.getElem?_map,h2] at h1
   cases h1
   rw[Array.all_eq_true'] at hall
   exact .inr ⟨.v y,hall y (by rw[←Array.mem_toList_iff];exact List.mem_of_getElem? h2)⟩
  ·exact .top_ _
 ·exact .top_ _
 ·rename_i h1 h2
  refine .val ?_
  cases v <;> first | rfl | exact(h1 _ rfl).elim | exact(h2 _ rfl).elim
theorem Rel.ev(h:Rel w0 F Xc ρ0 ρ st a w)(x:Operand):RdD w (XB st.objs ρ Xc) ρ (ev st x) (a.eval x):=by
 cases x with
 | tmp t=>
  simp only[Eng.ev,Act.eval]
  rcases Nat.lt_or_ge t st.env.length with hl | hl
  ·have hl':t<a.tmps.size:=by rw[h.len];exact hl
   rw[List.getD_eq_getElem?_getD,List.getElem?_eq_getElem hl]
   rw[Array.getD_eq_getD_getElem?,Array.getElem?_eq_getElem hl']
   exact h.env t _ _ (List.getElem?_eq_getElem hl) (Array.getElem?_eq_getElem hl')
  ·rw[List.getD_eq_getElem?_getD,List.getElem?_eq_none hl]
   exact .top_ _
 | const v=>exact .constD v
 | global g=>exact .top_ _
 | func f=>exact .val rfl
end
def ob{α R:Type}(m:Option α)(k:α→Option R):Option R:=match m with
 | some a=>k a
 | none=>none
theorem aC{α R:Type}{m:Option α}{k:α→Option R}{r:R}(h:ob m k=some r):∃a,m=some a∧k a=some r:=by
 cases m with
 | none=>cases h
 | some a=>exact⟨a,rfl,h⟩
@[irreducible] def wr(k:IntKind)(n:Int):Int:=k.wrap n
@[irreducible] def eqI(a b:Int):Bool:=a==b
@[irreducible] def ltI(a b:Int):Bool:=decide (a<b)
@[irreducible] def leI(a b:Int):Bool:=decide (a≤b)
@[irreducible] def addI(a b:Int):Int:=a+b
@[irreducible] def subI(a b:Int):Int:=a-b
@[irreducible] def mulI(a b:Int):Int:=a*b
@[irreducible] def divI(a b:Int):Int:=a.tdiv b
@[irreducible] def modI(a b:Int):Int:=a.tmod b
@[irreducible] def nz(b:Int):Option Int:=if b=0 then none else some b
@[irreducible] def nn(b:Int):Option Int:=if b<0 then none else some b
@[irreducible] def shlI(k:IntKind)(x y:Int):Int:=x*2 ^ (min y.toNat k.bits)
@[irreducible] def shrI(k:IntKind)(x y:Int):Int:=x.fdiv (2 ^ (min y.toNat k.bits))
@[irreducible] def bitI(op:BinOp)(k:IntKind)(x y:Int):Int:=match op with
 | .and=>k.wrap ((BitVec.ofInt k.bits x &&& BitVec.ofInt k.bits y).toNat:Int)
 | .or=>k.wrap ((BitVec.ofInt k.bits x ||| BitVec.ofInt k.bits y).toNat:Int)
 | .xor=>k.wrap ((BitVec.ofInt k.bits x ^^^ BitVec.ofInt k.bits y).toNat:Int)
 | _=>k.wrap ((BitVec.ofInt k.bits x &&& ~~~ BitVec.ofInt k.bits y).toNat:Int)
@[irreducible] def eqS(a b:ByteArray):Bool:=a.toList==b.toList
@[irreducible] def Gk(a b:ByteArray):Bool:=Op.bytesLess a.toList b.toList
@[irreducible] def catS(a b:ByteArray):Option ByteArray:=if ((a.size+b.size:Nat):Int) > IntKind.i64.max then none else some (a++b)
@[irreducible] def lenS(a:ByteArray):Int:=a.size
@[irreducible] def r7(s:ByteArray)(i:Int):Option Int:=if 0≤i then (s[i.toNat]?).map (fun b=>(b.toNat:Int)) else none
@[irreducible] def subS(s:ByteArray)(lo hi:Int):Option ByteArray:=if 0≤hi∧hi≤s.size∧0≤lo∧lo≤hi then some (s.extract lo.toNat hi.toNat) else none
@[irreducible] def eqB(a b:Bool):Bool:=a==b
def dI(k:IntKind)(n:Int):D:=.s (.c (.t (.v (.int k n))))
def dB(b:Bool):D:=.s (.c (.t (.v (.bool b))))
def dS(s:ByteArray):D:=.s (.c (.t (.v (.string s))))
def T.int?(k:IntKind):T→Option Int
 | .v (.int k' n)=>if k'=k then some n else none
 | _=>none
def T.bool?:T→Option Bool
 | .v (.bool b)=>some b
 | _=>none
def T.str?:T→Option ByteArray
 | .v (.string s)=>some s
 | _=>none
def T.sl?(k:Nat):T→Option (List T)
 | .v (.slice none 0 0)=>if k<1000000000 then some [] else none
 | .sl k' l=>if k'=k then some l else none
 | _=>none
def T.rw?(k:Nat)(x:T):Option (List T):=if k<1000000000 then x.sl? k else none
theorem T.rw_some{k:Nat}{x:T}{l:List T}(h:x.rw? k=some l):k<1000000000∧x.sl? k=some l:=by
 unfold T.rw? at h
 split at h
 ·rename_i hk;exact⟨hk,h⟩
 ·cases h
section
variable {R:Type}
def mE(d:D)(f:C→Option R):Option R:=match d with
 | .s (.c x)=>f x
 | _=>none
def EW(d:D)(f:T→Option R):Option R:=match d with
 | .s (.c (.t x))=>f x
 | _=>none
def J5(k:IntKind)(d:D)(f:Int→Option R):Option R:=EW d fun x=>ob (x.int? k) f
def NF(d:D)(f:Bool→Option R):Option R:=EW d fun x=>ob x.bool? f
def EX(d:D)(f:ByteArray→Option R):Option R:=EW d fun x=>ob x.str? f
variable {w:World} {X:Nat→Prop} {ρ:fN} {d:D} {y:Value} {r:R}
theorem P1{f:T→Option R}(h:RdD w X ρ d y)(hf:EW d f=some r):∃x,d=.s (.c (.t x))∧Rd w X x y∧y.oneCell'=true∧f x=some r:=by
 unfold EW at hf
 split at hf
 ·rename_i x
  rcases h with h | ⟨h1,h2⟩
  ·cases h
  ·exact⟨x,rfl,h1,h2,hf⟩
 ·cases hf
theorem jJ{f:C→Option R}(h:RdD w X ρ d y)(hf:mE d f=some r):∃x,d=.s (.c x)∧RdC1 w X ρ x y∧f x=some r:=by
 unfold mE at hf
 split at hf
 ·rename_i x
  exact⟨x,rfl,h,hf⟩
 ·cases hf
theorem P2{k:IntKind}{x:T}{n:Int}(h:Rd w X x y)(hx:x.int? k=some n):y=.int k n:=by
 unfold T.int? at hx
 split at hx
 ·split at hx
  ·rename_i hk;cases hx;subst hk;exact h.inv_v
  ·cases hx
 ·cases hx
theorem P3{x:T}{b:Bool}(h:Rd w X x y)(hx:x.bool?=some b):y=.bool b:=by
 unfold T.bool? at hx
 split at hx
 ·cases hx;exact h.inv_v
 ·cases hx
theorem UZ{x:T}{s:ByteArray}(h:Rd w X x y)(hx:x.str?=some s):y=.string s:=by
 unfold T.str? at hx
 split at hx
 ·cases hx;exact h.inv_v
 ·cases hx
theorem rK{k:IntKind}{f:Int→Option R}(h:RdD w X ρ d y)(hf:J5 k d f=some r):∃n,y=.int k n∧f n=some r:=by
 obtain⟨x,_,hx,_,hf⟩:=P1 h hf
 obtain⟨n,hn,hf⟩:=aC hf
 exact⟨n,P2 hx hn,hf⟩
theorem vC{f:Bool→Option R}(h:RdD w X ρ d y)(hf:NF d f=some r):∃n,y=.bool n∧f n=some r:=by
 obtain⟨x,_,hx,_,hf⟩:=P1 h hf
 obtain⟨n,hn,hf⟩:=aC hf
 exact⟨n,P3 hx hn,hf⟩
theorem pJ{f:ByteArray→Option R}(h:RdD w X ρ d y)(hf:EX d f=some r):∃n,y=.string n∧f n=some r:=by
 obtain⟨x,_,hx,_,hf⟩:=P1 h hf
 obtain⟨n,hn,hf⟩:=aC hf
 exact⟨n,UZ hx hn,hf⟩
theorem RdD.int(k:IntKind)(n:Int):RdD w X ρ (dI k n) (.int k n):=.val rfl
theorem RdD.bool(b:Bool):RdD w X ρ (dB b) (.bool b):=.val rfl
theorem RdD.str(s:ByteArray):RdD w X ρ (dS s) (.string s):=.val rfl
end
section
variable {R:Type}
def nT(op:BinOp)(k:IntKind)(a b:Int)(f:D→Option R):Option R:=match op with
 | .add=>f (dI k (wr k (addI a b)))
 | .sub=>f (dI k (wr k (subI a b)))
 | .mul=>f (dI k (wr k (mulI a b)))
 | .quo=>ob (nz b) fun b=>f (dI k (wr k (divI a b)))
 | .rem=>ob (nz b) fun b=>f (dI k (modI a b))
 | .and=>f (dI k (bitI .and k a b))
 | .or=>f (dI k (bitI .or k a b))
 | .xor=>f (dI k (bitI .xor k a b))
 | .andNot=>f (dI k (bitI .andNot k a b))
 | .eql=>f (dB (eqI a b))
 | .neq=>f (dB (!eqI a b))
 | .lss=>f (dB (ltI a b))
 | .leq=>f (dB (leI a b))
 | .gtr=>f (dB (ltI b a))
 | .geq=>f (dB (leI b a))
 | _=>none
def OR(op:BinOp)(a b:ByteArray)(f:D→Option R):Option R:=match op with
 | .add=>ob (catS a b) fun s=>f (dS s)
 | .eql=>f (dB (eqS a b))
 | .neq=>f (dB (!eqS a b))
 | .lss=>f (dB (Gk a b))
 | .leq=>f (dB (Gk a b||eqS a b))
 | .gtr=>f (dB (!(Gk a b||eqS a b)))
 | .geq=>f (dB (!Gk a b))
 | _=>none
def BW(op:BinOp)(k:IntKind)(a b:Int)(f:D→Option R):Option R:=match op with
 | .shl=>ob (nn b) fun b=>f (dI k (wr k (shlI k a b)))
 | .shr=>ob (nn b) fun b=>f (dI k (shrI k a b))
 | _=>none
def J6:BinOp→Bool
 | .shl | .shr=>true
 | _=>false
variable (P:Program)
def DP(op:BinOp)(ty yty:TypeId)(x y:D)(f:D→Option R):Option R:=
 match P.underlying ty with
 | some (.int k)=>
  if J6 op then
   match P.underlying yty with
   | some (.int k')=>J5 k x fun a=>J5 k' y fun b=>BW op k a b f
   | _=>none
  else J5 k x fun a=>J5 k y fun b=>nT op k a b f
 | some .string=>EX x fun a=>EX y fun b=>OR op a b f
 | some .bool=>if op=.eql then NF x fun a=>NF y fun b=>f (dB (eqB a b)) else if op=.neq then NF x fun a=>NF y fun b=>f (dB (!eqB a b)) else none
 | _=>none
variable {P} {w:World} {X:Nat→Prop} {ρ:fN} {r:R}
theorem Bn{op:BinOp}{k:IntKind}{a b:Int}{f:D→Option R}(hop:J6 op=false)(h:nT op k a b f=some r)(t:TypeId):
 ∃d v,(binOp op t (.int k a) (.int k b)).run P w=.ok v w∧RdD w X ρ d v∧f d=some r:=by
 have hI:∀n,RdD w X ρ (dI k n) (.int k n):=fun n=>.int k n
 have hB:∀n,RdD w X ρ (dB n) (.bool n):=fun n=>.bool n
 cases op
 case shl=>simp[J6] at hop
 case shr=>simp[J6] at hop
 case add=>exact⟨_,_,by simp only[binOp,ne_eq,not_true_eq_false,if_false,Op.intArith];rfl,hI _,by simpa only[nT,wr,addI] using h⟩
 case sub=>exact⟨_,_,by simp only[binOp,ne_eq,not_true_eq_false,if_false,Op.intArith];rfl,hI _,by simpa only[nT,wr,subI] using h⟩
 case mul=>exact⟨_,_,by simp only[binOp,ne_eq,not_true_eq_false,if_false,Op.intArith];rfl,hI _,by simpa only[nT,wr,mulI] using h⟩
 case and=>exact⟨_,_,by simp only[binOp,ne_eq,not_true_eq_false,if_false,Op.intBits];rfl,hI _,by simpa only[nT,bitI] using h⟩
 case or=>exact⟨_,_,by simp only[binOp,ne_eq,not_true_eq_false,if_false,Op.intBits];rfl,hI _,by simpa only[nT,bitI] using h⟩
 case xor=>exact⟨_,_,by simp only[binOp,ne_eq,not_true_eq_false,if_false,Op.intBits];rfl,hI _,by simpa only[nT,bitI] using h⟩
 case andNot=>exact⟨_,_,by simp only[binOp,ne_eq,not_true_eq_false,if_false,Op.intBits];rfl,hI _,by simpa only[nT,bitI] using h⟩
 case eql=>exact⟨_,_,by simp only[binOp,ne_eq,not_true_eq_false,if_false,Op.intCmp];rfl,hB _,by simpa only[nT,eqI] using h⟩
 case neq=>exact⟨_,.bool (!(a==b)),by simp only[binOp,ne_eq,not_true_eq_false,if_false,Op.intCmp];rfl,hB _,by simpa only[nT,eqI] using h⟩
 case lss=>exact⟨_,_,by simp only[binOp,ne_eq,not_true_eq_false,if_false,Op.intCmp];rfl,hB _,by simpa only[nT,ltI] using h⟩
 case leq=>exact⟨_,_,by simp only[binOp,ne_eq,not_true_eq_false,if_false,Op.intCmp];rfl,hB _,by simpa only[nT,leI] using h⟩
 case gtr=>exact⟨_,_,by simp only[binOp,ne_eq,not_true_eq_false,if_false,Op.intCmp];rfl,hB _,by simpa only[nT,ltI] using h⟩
 case geq=>exact⟨_,_,by simp only[binOp,ne_eq,not_true_eq_false,if_false,Op.intCmp];rfl,hB _,by simpa only[nT,leI] using h⟩
 all_goals
  simp only[nT] at h
  obtain⟨b',hb,h⟩:=aC h
  unfold nz at hb
  split at hb
  ·cases hb
  ·rename_i hne
   cases hb
   refine⟨_,_,?_,hI _,h⟩
   simp only[binOp,ne_eq,not_true_eq_false,if_false,Op.intDiv,hne,wr,divI,modI]
   rfl
theorem U0{op:BinOp}{k k':IntKind}{a b:Int}{f:D→Option R}(h:BW op k a b f=some r)(t:TypeId):
 ∃d v,(binOp op t (.int k a) (.int k' b)).run P w=.ok v w∧RdD w X ρ d v∧f d=some r:=by
 cases op <;> simp only[BW] at h <;> first
  | (cases h;done)
  | (obtain⟨b',hb,h⟩:=aC h
     unfold nn at hb
     split at hb
     ·cases hb
     ·rename_i hne
      cases hb
      refine⟨_,_,?_,.int k _,h⟩
      simp only[binOp,Op.shift,hne,if_false,wr,shlI,shrI]
      rfl)
theorem Bo{op:BinOp}{a b:ByteArray}{f:D→Option R}(h:OR op a b f=some r)(t:TypeId):
 ∃d v,(binOp op t (.string a) (.string b)).run P w=.ok v w∧RdD w X ρ d v∧f d=some r:=by
 have hB:∀n,RdD w X ρ (dB n) (.bool n):=fun n=>.bool n
 cases op <;> simp only[OR] at h <;> first
  | (cases h;done)
  | (refine⟨_,_,?_,hB _,h⟩;simp[binOp,Op.stringOp,eqS,Gk];done)
  | (obtain⟨b',hb,h⟩:=aC h
     unfold catS at hb
     split at hb
     ·cases hb
     ·rename_i hne
      cases hb
      refine⟨_,_,?_,.str _,h⟩
      simp only[binOp,Op.stringOp,hne,if_false,Sem.run_pure])
theorem zK{op:BinOp}{t:TypeId}{x y:Operand}{a b:Value}(h1:∀cs,a≠.agg cs)(h2:a≠.nilIface):(eqGuard op t x y a b).run P w=.ok () w:=by
 unfold eqGuard
 cases a <;> first | exact(h2 rfl).elim | exact(h1 _ rfl).elim | (cases op <;> rfl)
theorem zL{ty:TypeId}(hu:P.underlying ty=some .bool)(a b:Bool):(Op.equal ty (.bool a) (.bool b)).run P w=.ok (a==b) w:=by
 have h:∀d:Nat,(Op.equalIn (d+1) ty (.bool a) (.bool b)).run P w=.ok (a==b) w:=fun d=>by
  simp only[Op.equalIn,Sem.run_bind,run_underlying hu,Result.andThen_ok];rfl
 exact h 9999
theorem XC{op:BinOp}{ty yty:TypeId}{x y:D}{xo yo:Operand}{vx vy:Value}{f:D→Option R}(hx:RdD w X ρ x vx)(hy:RdD w X ρ y vy)(h:DP P op ty yty x y f=some r):
 ∃d v,(do eqGuard op ty xo yo vx vy;binOp op ty vx vy:Sem Value).run P w=.ok v w∧RdD w X ρ d v∧f d=some r:=by
 have key:∀{vx vy:Value} {v:Value},(∀cs,vx≠.agg cs)→vx≠.nilIface→(binOp op ty vx vy).run P w=.ok v w→(do eqGuard op ty xo yo vx vy;binOp op ty vx vy:Sem Value).run P w=.ok v w:=by
  intro vx vy v h1 h2 h3
  simp only[Sem.run_bind,zK h1 h2,Result.andThen_ok,h3]
 unfold DP at h
 split at h
 ·split at h
  ·split at h
   ·obtain⟨a,rfl,h⟩:=rK hx h
    obtain⟨b,rfl,h⟩:=rK hy h
    obtain⟨d,v,h1,h2,h3⟩:=U0 (P:=P) (w:=w) (X:=X) (ρ:=ρ) h ty
    exact⟨d,v,key (by simp) (by simp) h1,h2,h3⟩
   ·cases h
  ·rename_i hs
   obtain⟨a,rfl,h⟩:=rK hx h
   obtain⟨b,rfl,h⟩:=rK hy h
   obtain⟨d,v,h1,h2,h3⟩:=Bn (P:=P) (w:=w) (X:=X) (ρ:=ρ) (by simpa using hs) h ty
   exact⟨d,v,key (by simp) (by simp) h1,h2,h3⟩
 ·obtain⟨a,rfl,h⟩:=pJ hx h
  obtain⟨b,rfl,h⟩:=pJ hy h
  obtain⟨d,v,h1,h2,h3⟩:=Bo (P:=P) (w:=w) (X:=X) (ρ:=ρ) h ty
  exact⟨d,v,key (by simp) (by simp) h1,h2,h3⟩
 ·rename_i hu
  split at h
  ·rename_i ho
   subst ho
   obtain⟨a,rfl,h⟩:=vC hx h
   obtain⟨b,rfl,h⟩:=vC hy h
   refine⟨_,_,key (v:=.bool (a==b)) (by simp) (by simp) ?_,.bool _,by simpa only[eqB] using h⟩
   show (do pure (.bool (←Op.equal ty (.bool a) (.bool b))):Sem Value).run P w=_
   simp only[Sem.run_bind,zL hu,Result.andThen_ok,Sem.run_pure]
  ·split at h
   ·rename_i ho
    subst ho
    obtain⟨a,rfl,h⟩:=vC hx h
    obtain⟨b,rfl,h⟩:=vC hy h
    refine⟨_,_,key (v:=.bool (!(a==b))) (by simp) (by simp) ?_,.bool _,by simpa only[eqB] using h⟩
    show (do pure (.bool (!(←Op.equal ty (.bool a) (.bool b)))):Sem Value).run P w=_
    simp only[Sem.run_bind,zL hu,Result.andThen_ok,Sem.run_pure]
   ·cases h
 ·cases h
def Ki(op:UnOp)(ty:TypeId)(x:D)(f:D→Option R):Option R:=
 match op,P.underlying ty with
 | .neg,some (.int k)=>J5 k x fun a=>f (dI k (wr k (subI 0 a)))
 | .xor,some (.int k)=>J5 k x fun a=>f (dI k (bitI .xor k (if k.signed then -1 else k.max) a))
 | .not,_=>NF x fun a=>f (dB (!a))
 | _,_=>none
theorem Kj{op:UnOp}{ty:TypeId}{x:D}{vx:Value}{f:D→Option R}(hx:RdD w X ρ x vx)(h:Ki (P:=P) op ty x f=some r):
 ∃d v,(Op.unary op vx).run P w=.ok v w∧RdD w X ρ d v∧f d=some r:=by
 unfold Ki at h
 split at h
 ·obtain⟨a,rfl,h⟩:=rK hx h
  exact⟨_,_,by simp[Op.unary,Op.intArith,wr,subI],.int _ _,h⟩
 ·obtain⟨a,rfl,h⟩:=rK hx h
  exact⟨_,_,by simp[Op.unary,Op.intBits,bitI],.int _ _,h⟩
 ·obtain⟨a,rfl,h⟩:=vC hx h
  exact⟨_,_,by simp[Op.unary],.bool _,h⟩
 ·cases h
end
section
variable {R:Type} (P:Program)
def pA(t:TypeId):Option Nat:=(P.info? t).map (·.size)
def nU(t:TypeId):Option Bool:=match P.underlying t with
 | some (.struct _) | some (.array _ _)=>some true
 | some _=>some false
 | none=>none
variable {P} {w:World}
theorem bP{t:TypeId}{n:Nat}(h:pA P t=some n)(w:World):(sizeOf t).run P w=.ok n w:=by
 unfold pA at h
 cases hi:P.info? t with
 | none=>simp[hi] at h
 | some i=>simp only[hi,Option.map_some,Option.some.injEq] at h;simp[sizeOf,typeInfo,hi,h]
theorem GU{t:TypeId}{b:Bool}(h:nU P t=some b)(w:World):(isAgg t).run P w=.ok b w:=by
 unfold nU at h
 unfold isAgg
 cases hu:P.underlying t with
 | none=>simp[hu] at h
 | some d=>
  rw[hu] at h
  simp only[Sem.run_bind,run_underlying hu,Result.andThen_ok]
  cases d <;> simp at h <;> subst h <;> rfl
end
def xD:D→Option (List C)
 | .s (.c .top)=>none
 | .s (.c c)=>some [c]
 | .s (.agg l)=>some l
 | .tup _=>none
section
variable {w:World} {X:Nat→Prop} {ρ:fN}
theorem OS{y:Value}(h:y.oneCell'=true):y.cells=#[y]:=by
 cases y <;> first | rfl | simp[Value.oneCell'] at h
theorem pK{d:D}{y:Value}{cs:List C}(h:RdD w X ρ d y)(hd:xD d=some cs):RdL w X ρ cs y.cells.toList:=by
 unfold xD at hd
 split at hd
 ·cases hd
 ·rename_i c hc
  cases hd
  rcases h with h | ⟨h1,h2⟩
  ·exact(hc h).elim
  ·rw[OS h2]
   refine⟨rfl,fun i c' y' e1 e2=>?_⟩
   cases i with
   | zero=>simp at e1 e2;subst e1;subst e2;exact .inr ⟨h1,h2⟩
   | succ i=>simp at e1
 ·cases hd
  obtain⟨cs',rfl,hl⟩:=h
  exact hl
 ·cases hd
theorem RdL.drop{l:List C}{ys:List Value}(h:RdL w X ρ l ys)(n:Nat):RdL w X ρ (l.drop n) (ys.drop n):=
 ⟨by simp[h.1],fun i c y h1 h2=>h.2 (n+i) c y (by simpa using h1) (by simpa using h2)⟩
theorem RdL.take{l:List C}{ys:List Value}(h:RdL w X ρ l ys)(n:Nat):RdL w X ρ (l.take n) (ys.take n):=by
 refine⟨by simp[h.1],fun i c y h1 h2=>?_⟩
 rw[List.getElem?_take] at h1 h2
 split at h1
 ·rename_i hi
  rw[if_pos hi] at h2
  exact h.2 i c y h1 h2
 ·cases h1
theorem RdL.append{l m:List C}{ys zs:List Value}(h:RdL w X ρ l ys)(h':RdL w X ρ m zs):RdL w X ρ (l++m) (ys++zs):=by
 refine⟨by simp[h.1,h'.1],fun i c y h1 h2=>?_⟩
 rw[List.getElem?_append] at h1 h2
 have hl:=h.1
 by_cases hi:i<l.length
 ·rw[if_pos hi] at h1
  rw[if_pos (by omega)] at h2
  exact h.2 i c y h1 h2
 ·rw[if_neg hi] at h1
  rw[if_neg (by omega)] at h2
  rw[hl] at h2
  exact h'.2 _ c y h1 h2
theorem RdL.one{c:C}{y:Value}(h:RdC1 w X ρ c y):RdL w X ρ [c] [y]:=by
 refine⟨rfl,fun i c' y' h1 h2=>?_⟩
 cases i with
 | zero=>simp at h1 h2;subst h1;subst h2;exact h
 | succ i=>simp at h1
def Ps:C→Bool
 | .top=>false
 | _=>true
theorem RdL.one'{l:List C}{ys:List Value}(h:RdL w X ρ l ys)(ho:l.all Ps=true):∀v∈ys,v.oneCell'=true:=by
 intro v hv
 obtain⟨i,hi,rfl⟩:=List.getElem_of_mem hv
 have hl:=h.1
 have hil:i<l.length:=by omega
 have hc:=h.2 i l[i] ys[i] (List.getElem?_eq_getElem hil) (List.getElem?_eq_getElem hi)
 rcases hc with hc | hc
 ·have:=List.all_eq_true.1 ho _ (List.getElem_mem hil)
  rw[hc] at this
  cases this
 ·exact hc.2
end
def U1{α:Type}:List α→Nat→List α→List α
 | [],_,_=>[]
 | l,0,[]=>l
 | _::l,0,x::xs=>x::U1 l 0 xs
 | c::l,k+1,xs=>c::U1 l k xs
theorem P4{α:Type}:∀(l:List α) (k:Nat) (xs:List α),k+xs.length≤l.length→U1 l k xs=l.take k++xs++l.drop (k+xs.length)
 | [],k,xs,h=>by
  have h1:k=0:=by rw[List.length_nil] at h;omega
  have h2:xs=[]:=List.eq_nil_of_length_eq_zero (by have h:=h;rw[List.length_nil] at h;omega)
  subst h1;subst h2;rfl
 | c::l,0,[],_=>rfl
 | c::l,0,x::xs,h=>by
  have:=P4 l 0 xs (by simp at h ⊢;omega)
  rw[U1,this]
  simp
 | c::l,k+1,xs,h=>by
  have:=P4 l k xs (by simp at h ⊢;omega)
  rw[U1,this,List.take_succ_cons,show k+1+xs.length=(k+xs.length)+1 by omega,List.drop_succ_cons]
  rfl
def H4(place:Nat→Option (Nat×Nat))(cells:List C):List (Nat×D)→Option (List C)
 | []=>some cells
 | (i,d)::jB=>match place i,xD d with
  | some (off,size),some cs=>if cs.length=size∧off+size≤cells.length then H4 place (U1 cells off cs) jB else none
  | _,_=>none
theorem EY(vs:List Value):∀(i off:Nat) (arr:Array Value),off+i+vs.length≤arr.size →
 ((vs.zipIdx i).foldl (fun(cs:Array Value) (x:Value×Nat)=>cs.setIfInBounds (off+x.2) x.1) arr).toList=arr.toList.take (off+i)++vs++arr.toList.drop (off+i+vs.length):=by
 induction vs with
 | nil=>intro i off arr h;simp
 | cons v vs ih=>
  intro i off arr h
  simp only[List.length_cons] at h
  rw[List.zipIdx_cons,List.foldl_cons,ih (i+1) off _ (by simp;omega)]
  have:=list_seg_step arr.toList (off+i) v vs (by simp;omega)
  simp only[Array.toList_setIfInBounds,List.length_cons]
  rw[←Nat.add_assoc,this]
section
variable {w:World} {X:Nat→Prop} {ρ:fN}
theorem zM(place:Nat→Option (Nat×Nat)):∀(parts:List (Nat×D)) (vparts:List (Nat×Value)) (cells:List C) (ys:Array Value) (cs':List C),
 RdL w X ρ cells ys.toList→parts.length=vparts.length→(∀(i:Nat) p q,parts[i]?=some p→vparts[i]?=some q→p.1=q.1∧RdD w X ρ p.2 q.2) →
 H4 place cells parts=some cs'→∃ys',Instr.fill place ys vparts=some ys'∧RdL w X ρ cs' ys'.toList
 | [],[],cells,ys,cs',h,_,_,hf=>by
  simp only[H4,Option.some.injEq] at hf
  subst hf
  exact⟨ys,rfl,h⟩
 | (i,d)::jB,(i',v)::vrest,cells,ys,cs',h,hlen,hp,hf=>by
  obtain⟨rfl,hd⟩:=hp 0 _ _ rfl rfl
  simp only at hd
  simp only[H4] at hf
  split at hf
  ·rename_i off size cs hpl hdc
   split at hf
   ·rename_i hc
    have hl:=pK hd hdc
    have hsz:v.cells.size=size:=by have:=hl.1;rw[Array.length_toList] at this;omega
    have hcl:=h.1
    rw[Array.length_toList] at hcl
    have hfs:=EY v.cells.toList 0 off ys (by rw[Array.length_toList];omega)
    simp only[Nat.add_zero] at hfs
    have hnew:RdL w X ρ (U1 cells off cs) (v.cells.zipIdx.foldl (fun cs (c,j)=>cs.setIfInBounds (off+j) c) ys).toList:=by
     rw[←Array.foldl_toList,Array.toList_zipIdx]
     rw[show (fun(cs:Array Value) (x:Value×Nat)=>match x with | (c,j)=>cs.setIfInBounds (off+j) c)=fun cs x=>cs.setIfInBounds (off+x.2) x.1 from rfl,hfs,Array.length_toList,hsz]
     rw[P4 cells off cs (by omega),hc.1]
     exact((h.take off).append hl).append (h.drop (off+size))
    obtain⟨ys',h1,h2⟩:=zM place jB vrest _ _ cs' hnew (by simpa using hlen) (fun j p q e1 e2=>hp (j+1) p q (by simpa using e1) (by simpa using e2)) hf
    refine⟨ys',?_,h2⟩
    simp only[Instr.fill,hpl]
    rw[if_neg (by simp[hsz];omega)]
    exact h1
   ·cases hf
  ·cases hf
 | [],_::_,_,_,_,_,hlen,_,_=>by simp at hlen
 | _::_,[],_,_,_,_,hlen,_,_=>by simp at hlen
end
def KK(l:List C)(off n:Nat)(agg:Bool):Option S1:=
 if agg then (if off+n≤l.length then some (.agg ((l.drop off).take n)) else none) else (l[off]?).map .c
section
variable {P:Program} {w:World} {X:Nat→Prop} {ρ:fN}
theorem BX{l:List C}{cs:Array Value}{t:TypeId}{off n:Nat}{b:Bool}{s:S1}(h:RdL w X ρ l cs.toList)(hn:pA P t=some n)(hb:nU P t=some b)(hs:KK l off n b=some s):
 ∃v,(part t cs off).run P w=.ok v w∧RdS w X ρ s v:=by
 unfold KK at hs
 have hl:=h.1
 rw[Array.length_toList] at hl
 unfold part
 simp only[Sem.run_bind,GU hb,Result.andThen_ok]
 cases b with
 | true=>
  simp only[if_true] at hs ⊢
  split at hs
  ·cases hs
   refine⟨_,by simp only[Sem.run_bind,bP hn,Result.andThen_ok,Sem.run_pure];rfl,_,rfl,?_⟩
   rw[Array.toList_extract,List.extract_eq_take_drop,Nat.add_sub_cancel_left]
   exact(h.drop off).take n
  ·cases hs
 | false=>
  simp only[Bool.false_eq_true,if_false] at hs ⊢
  cases hc:l[off]? with
  | none=>simp[hc] at hs
  | some c=>
   simp only[hc,Option.map_some,Option.some.injEq] at hs
   subst hs
   have hlt:off<l.length:=(List.getElem?_eq_some_iff.1 hc).1
   have hv:cs[off]?=some (cs[off]'(by omega)):=Array.getElem?_eq_getElem _
   refine⟨_,by rw[hv];rfl,h.2 off c _ hc (by rw[Array.getElem?_toList];exact hv)⟩
end
@[irreducible] def idxL{α:Type}(l:List α)(i:Int):Option α:=if 0≤i then l[i.toNat]? else none
@[irreducible] def lenL{α:Type}(l:List α):Int:=l.length
@[irreducible] def chkI(n i:Int):Option Nat:=if 0≤i∧i<n then some i.toNat else none
@[irreducible] def ZB(n:Nat):Int:=n
@[irreducible] def Bp(a b:Nat):Nat:=a+b
@[irreducible] def iR{α:Type}(l:List α)(lo len:Nat):List α:=(l.drop lo).take len
@[irreducible] def ZC(L l h:Int):Option (Nat×Nat):=if 0≤l∧l≤h∧h≤L then some (l.toNat,(h-l).toNat) else none
@[irreducible] def Kk(L l h m:Int):Option (Nat×Nat):=if 0≤l∧l≤h∧h=m∧h≤L then some (l.toNat,(h-l).toNat) else none
theorem ZD{L l h:Int}{p:Nat×Nat}(hc:ZC L l h=some p):0≤l∧l≤h∧h≤L∧p=(l.toNat,(h-l).toNat):=by
 unfold ZC at hc
 split at hc
 ·rename_i hh;cases hc;exact⟨hh.1,hh.2.1,hh.2.2,rfl⟩
 ·cases hc
theorem ZE{L l h m:Int}{p:Nat×Nat}(hc:Kk L l h m=some p):0≤l∧l≤h∧h=m∧h≤L∧p=(l.toNat,(h-l).toNat):=by
 unfold Kk at hc
 split at hc
 ·rename_i hh;cases hc;exact⟨hh.1,hh.2.1,hh.2.2.1,hh.2.2.2,rfl⟩
 ·cases hc
def T.cell(x:T)(j:Nat):T:=x.cells.getD j (.v undef)
def uI(x:T)(j n:Nat):List C:=(List.range n).map fun m=>.t (x.cell (j+m))
theorem ZF{α:Type}{l:List α}{i:Int}{x:α}(h:idxL l i=some x):0≤i∧l[i.toNat]?=some x:=by
 unfold idxL at h
 split at h
 ·exact⟨by assumption,h⟩
 ·cases h
theorem GV{n i:Int}{m:Nat}(h:chkI n i=some m):0≤i∧i<n∧i=m∧i.toNat=m:=by
 unfold chkI at h
 split at h
 ·cases h;omega
 ·cases h
section
variable {w:World} {X:Nat→Prop} {ρ:fN}
theorem PeIn.cells{n:Nat}{x:T}{a:Addr}(h:PeIn w X n x a){j m:Nat}(hj:j+m≤n):
 ∃ys:List Value,ys.length=m∧(∀(i:Nat) y,ys[i]?=some y→w.cell? ((a.add j).add i)=some y)∧RdL w X ρ (uI x j m) ys:=by
 obtain⟨h0,ys,hl,hc,ht⟩:=h
 refine⟨(ys.drop j).take m,by simp[hl];omega,fun i y hi=>?_,?_⟩
 ·rw[List.getElem?_take] at hi
  split at hi
  ·rw[List.getElem?_drop] at hi
   rw[kG]
   exact(hc _ _ hi).1
  ·cases hi
 ·refine⟨by simp[uI,hl];omega,fun i c y h1 h2=>?_⟩
  simp only[uI,List.getElem?_map,List.getElem?_range] at h1
  rw[List.getElem?_take] at h2
  split at h2
  ·rename_i hi
   rw[List.getElem?_drop] at h2
   rw[List.getElem?_range hi] at h1
   simp only[Option.map_some,Option.some.injEq] at h1
   subst h1
   have hlt:j+i<x.cells.length:=by omega
   refine .inr ⟨?_,(hc _ _ h2).2.2⟩
   have:=ht (j+i) (x.cells[j+i]) y (List.getElem?_eq_getElem hlt) h2
   simpa[RdC,T.cell,List.getD_eq_getElem?_getD,List.getElem?_eq_getElem hlt] using this
  ·cases h2
theorem Rd.elem{k:Nat}{l:List T}{a:Addr}{c n:Nat}(h:Rd w X (.sl k l) (.slice (some a) n c)){i:Nat}{x:T}(hi:l[i]?=some x):n=l.length∧PeIn w X k x (a.add (i*k)):=by
 cases h with
 | sl _ _ _ _ ys _ hc hm hu hy hcell hr=>
  refine⟨rfl,hu x (List.mem_of_getElem? hi),(ys.drop (i*k)).take k,?_,fun j y hj=>?_,fun j t y h1 h2=>?_⟩
  ·have hlt:i<l.length:=(List.getElem?_eq_some_iff.1 hi).1
   have:(i+1)*k≤l.length*k:=Nat.mul_le_mul_right _ hlt
   rw[Nat.add_mul] at this
   simp[hy,hu.length]
   omega
  ·rw[List.getElem?_take] at hj
   split at hj
   ·rw[List.getElem?_drop] at hj
    rw[kG,dH]
    exact hcell _ _ hj
   ·cases hj
  ·rw[List.getElem?_take] at h2
   split at h2
   ·rename_i hj
    rw[List.getElem?_drop] at h2
    exact hr (i*k+j) t y (by rw[hu.cell hi j hj];exact h1) h2
   ·cases h2
theorem fZ{h:Value}{fz:Bool}{e:TypeId}{n:Nat}{l:List T}(ho:okO w X ρ h (.row fz e n l)):
 (h=.slice none 0 0∧l=[])∨∃a cap,h=.slice (some a) l.length cap∧l.length≤cap∧cap≤maxLen∧∃xs,RdT w X (flat l) xs∧(∀(i:Nat) y,xs[i]?=some y→w.cell? (a.add i)=some y):=by
 obtain⟨h0,hu,⟨xs,hown,hr⟩,hf⟩:=ho
 rcases hown.2 with⟨e1 | ⟨a,e1⟩,e2⟩ | ⟨g,off,cap,cur,e1,_,_,h1,h2,_⟩
 ·exact .inl ⟨e1,List.eq_nil_of_length_eq_zero e2⟩
 ·exact .inr ⟨a,0,by rw[e2];exact e1,by omega,by unfold maxLen;omega,xs,hr,hown.cells e1⟩
 ·exact .inr ⟨⟨g,off,none⟩,cap,e1,h1,h2,xs,hr,hown.cells e1⟩
theorem vW{X':Nat→Prop}{h:Value}{fz:Bool}{e:TypeId}{n:Nat}{l:List T}(ho:okO w X ρ h (.row fz e n l))(hX:∀b,X' b→X b)(hb:∀b,blk h=some b→¬X' b):Rd w X' (.sl n l) h:=by
 have ho':=ho
 obtain⟨h0,hu,_,_⟩:=ho'
 rcases fZ ho with⟨rfl,rfl⟩ | ⟨a,cap,rfl,h1,h2,xs,hr,hc⟩
 ·exact .nil n h0.2
 ·refine .sl n l _ cap xs h0.2 h1 h2 hu hr.1 (fun i y hi=>?_) fun i t y e1 e2=>(hr.2 i t y e1 e2).1.weak hX
  have hlt:i<(flat l).length:=by have:=(List.getElem?_eq_some_iff.1 hi).1;rw[hr.1] at this;exact this
  have hc0:cap≠0:=by
   intro hc0
   have:l=[]:=List.eq_nil_of_length_eq_zero (by omega)
   subst this
   simp[flat] at hlt
  exact⟨hc i y hi,hb _ (by simp[blk,hc0]),(hr.2 i _ y (List.getElem?_eq_getElem hlt) hi).2⟩
theorem P5{X':Nat→Prop}{h:Value}{fz:Bool}{e:TypeId}{n:Nat}{l:List T}(ho:okO w X ρ h (.mp fz e n l))(hX:∀b,X' b→X b)(hb:∀b,blk h=some b→¬X' b):Rd w X' (.sl n l) h:=by
 obtain⟨h0,g,es,clock,rfl,hg,⟨e1,e2,e3,e4⟩,_⟩:=ho
 exact .mp n l g es clock h0 hg (hb g rfl) e1 e2 e4 fun i k v e a b=>(e3 i k v e a b).weak hX
theorem Kl{h:Value}{fz:Bool}{e:TypeId}{n:Nat}{l:List T}(ho:okO w X ρ h (.mp fz e n l)):h.oneCell'=true:=by
 obtain⟨h0,g,es,clock,rfl,_⟩:=ho
 rfl
theorem BY{h y:Value}{fz tg:Bool}{e:TypeId}{n lo len:Nat}{l:List T}(ho:okO w X ρ h (.row fz e n l))(hc:CutOf h n lo len tg y):
 (iR l lo len).length=len∧Uni n (iR l lo len)∧y.oneCell'=true∧((y=.slice none 0 0∧iR l lo len=[])∨∃a q,y=.slice (some a) (iR l lo len).length q∧(iR l lo len).length≤q∧q≤maxLen ∧
  ∃xs,RdT w X (flat (iR l lo len)) xs∧∀(i:Nat) z,xs[i]?=some z→w.cell? (a.add i)=some z∧blk h=some a.block):=by
 have ho':=ho
 obtain⟨h0,hu,_,_⟩:=ho'
 unfold iR
 obtain⟨ao,L,c,cc,ao',rfl,rfl,h1,h2,h3,h4,_⟩:=hc
 have nil':RdT w X (flat ([]:List T)) []:=⟨rfl,fun i t y h1 _=>by simp[flat] at h1⟩
 have hempty:∀m:List T,m=[]→len=0→cc≤maxLen→((Value.slice ao' len cc=.slice none 0 0∧m=[])∨∃a q,Value.slice ao' len cc=.slice (some a) m.length q∧m.length≤q∧q≤maxLen ∧
  ∃xs,RdT w X (flat m) xs∧∀(i:Nat) z,xs[i]?=some z→w.cell? (a.add i)=some z∧blk (.slice ao L c)=some a.block):=fun m hm hl hcm=>by
  subst hm;subst hl
  cases ao' with
  | none=>
   have:cc=0:=by
    rcases Nat.eq_zero_or_pos cc with h | h
    ·exact h
    ·have h5:=h4 h
     cases ao with
     | none=>
      rcases fZ ho with⟨e1,_⟩ | ⟨a,cap,e1,_⟩
      ·cases e1;omega
      ·cases e1
     | some a=>cases h5
   subst this
   exact .inl ⟨rfl,rfl⟩
  | some b=>exact .inr ⟨b,cc,rfl,Nat.zero_le _,hcm,[],nil',fun i z h=>by simp at h⟩
 rcases fZ ho with⟨e1,rfl⟩ | ⟨a,cap,e1,g1,g2,xs,hr,hcell⟩
 ·cases e1
  have:len=0:=by omega
  subst this
  exact⟨by simp,by simp;exact .nil n,rfl,hempty _ (by simp) rfl (by unfold maxLen;omega)⟩
 ·cases e1
  have hlen:((l.drop lo).take len).length=len:=by rw[List.length_take,List.length_drop];omega
  refine⟨hlen,(hu.drop lo).take len,rfl,?_⟩
  by_cases hz:len=0
  ·exact hempty _ (List.eq_nil_of_length_eq_zero (by rw[hlen];exact hz)) hz (by omega)
  ·have h5:=h4 (by omega)
   have hao:ao'=some (a.add (lo*n)):=h5
   rw[hao]
   have hfl:flat ((l.drop lo).take len)=((flat l).drop (lo*n)).take (len*n):=by rw[(hu.drop lo).flat_take,hu.flat_drop]
   have hxl:=hr.1
   refine .inr ⟨a.add (lo*n),cc,by rw[hlen],by rw[hlen];exact h2,by omega,(xs.drop (lo*n)).take (len*n),⟨by rw[hfl];simp[hxl],fun i t z hi hz'=>?_⟩,fun i z hi=>?_⟩
   ·rw[hfl,List.getElem?_take] at hi
    rw[List.getElem?_take] at hz'
    split at hi
    ·rename_i hlt
     rw[if_pos hlt] at hz'
     rw[List.getElem?_drop] at hi hz'
     exact hr.2 _ t z hi hz'
    ·cases hi
   ·rw[List.getElem?_take] at hi
    split at hi
    ·rw[List.getElem?_drop] at hi
     refine⟨by rw[kG];exact hcell _ z hi,?_⟩
     rw[dH]
     simp only[blk];rw[if_neg (by omega)]
    ·cases hi
theorem KL{X':Nat→Prop}{h y:Value}{fz tg:Bool}{e:TypeId}{n lo len:Nat}{l:List T}(ho:okO w X ρ h (.row fz e n l))(hc:CutOf h n lo len tg y)(hX:∀b,X' b→X b)(hb:∀b,blk h=some b→¬X' b):
 Rd w X' (.sl n (iR l lo len)) y:=by
 obtain⟨_,hu,_,hh⟩:=BY ho hc
 rcases hh with⟨rfl,h2⟩ | ⟨a,q,rfl,h1,h2,xs,hr,hcell⟩
 ·rw[h2];exact .nil n ho.1.2
 ·refine .sl n _ a q xs ho.1.2 h1 h2 hu hr.1 (fun i z hi=>?_) fun i t z e1 e2=>(hr.2 i t z e1 e2).1.weak hX
  have hlt:i<(flat (iR l lo len)).length:=by rw[←hr.1];exact(List.getElem?_eq_some_iff.1 hi).1
  obtain⟨g1,g2⟩:=hcell i z hi
  exact⟨g1,hb _ g2,(hr.2 i _ z (List.getElem?_eq_getElem hlt) hi).2⟩
theorem Gl{h:Value}{fz:Bool}{e:TypeId}{n:Nat}{l:List T}(ho:okO w X ρ h (.row fz e n l)):h.oneCell'=true:=by
 rcases fZ ho with⟨rfl,_⟩ | ⟨g,cap,rfl,_⟩ <;> rfl
theorem Bq{h:Value}{fz:Bool}{e:TypeId}{n:Nat}{l:List T}(ho:okO w X ρ h (.row fz e n l)){i:Nat}{x:T}(hi:l[i]?=some x){j m:Nat}(hj:j+m≤n):
 ∃a ys,zJ h=some a∧ys.length=m∧(∀(q:Nat) y,ys[q]?=some y→w.cell? ((a.add (i*n+j)).add q)=some y)∧RdL w X ρ (uI x j m) ys:=by
 have ho':=ho
 obtain⟨h0,hu,_,_⟩:=ho'
 rcases fZ ho with⟨rfl,rfl⟩ | ⟨a0,cap,rfl,h1,h2,xs,hr,hc⟩
 ·simp at hi
 ·have hlt:i<l.length:=(List.getElem?_eq_some_iff.1 hi).1
  have hmul:(i+1)*n≤l.length*n:=Nat.mul_le_mul_right _ hlt
  rw[Nat.add_mul] at hmul
  have hxl:xs.length=l.length*n:=by rw[hr.1,hu.length]
  have hxn:x.cells.length=n:=hu x (List.mem_of_getElem? hi)
  refine⟨_,(xs.drop (i*n+j)).take m,rfl,by simp[hxl];omega,fun q y hq=>?_,?_⟩
  ·rw[List.getElem?_take] at hq
   split at hq
   ·rw[List.getElem?_drop] at hq
    rw[kG]
    exact hc _ _ hq
   ·cases hq
  ·refine⟨by simp[uI,hxl];omega,fun q c y e1 e2=>?_⟩
   simp only[uI,List.getElem?_map] at e1
   rw[List.getElem?_take] at e2
   split at e2
   ·rename_i hq
    rw[List.getElem?_drop] at e2
    rw[List.getElem?_range hq] at e1
    simp only[Option.map_some,Option.some.injEq] at e1
    subst e1
    have hlt':j+q<x.cells.length:=by omega
    have hce:=hu.cell hi (j+q) (by omega)
    have hr':=hr.2 (i*n+j+q) (x.cells[j+q]) y (by rw[Nat.add_assoc,hce,List.getElem?_eq_getElem hlt']) e2
    refine .inr ⟨?_,hr'.2⟩
    simpa[RdC,T.cell,List.getD_eq_getElem?_getD,List.getElem?_eq_getElem hlt'] using hr'.1
   ·cases e2
end
@[irreducible] def idxN{α:Type}(l:List α)(i:Nat):Option α:=l[i]?
theorem vX{α:Type}{l:List α}{i:Nat}{x:α}(h:idxN l i=some x):l[i]?=some x:=by unfold idxN at h;exact h
def Mq(n:Nat)(cells:List T):T:=match n,cells with
 | 1,t::_=>t
 | _,l=>.agg l
@[irreducible] def T.upd(n:Nat)(x:T)(j:Nat)(ts:List T):T:=Mq n (x.cells.take j++ts++x.cells.drop (j+ts.length))
def C.tree?:C→Option T
 | .t (.agg _)=>none
 | .t x=>some x
 | _=>none
def BZ:List C→Option (List T)
 | []=>some []
 | c::l=>match c.tree?,BZ l with
  | some x,some xs=>some (x::xs)
  | _,_=>none
theorem SK{c:C}{x:T}(h:c.tree?=some x):c=.t x∧∀l,x≠.agg l:=by
 unfold C.tree? at h
 split at h <;> first
  | (cases h;done)
  | (rename_i y hn;cases h;exact⟨rfl,fun l e=>hn l e⟩)
section
variable {w:World} {X:Nat→Prop} {ρ:fN}
theorem KM:∀{cs:List C} {ts:List T} {ys:List Value},RdL w X ρ cs ys→BZ cs=some ts →
 ts.length=cs.length∧RdT w X ts ys∧(∀t∈ts,∀l,t≠.agg l)
 | [],ts,ys,h,ht=>by
  simp only[BZ,Option.some.injEq] at ht
  subst ht
  exact⟨rfl,⟨by simpa using h.1,fun i t y h1 _=>by simp at h1⟩,by simp⟩
 | c::l,ts,ys,h,ht=>by
  simp only[BZ] at ht
  split at ht
  ·rename_i x xs hx hxs
   cases ht
   obtain⟨rfl,hn⟩:=SK hx
   cases ys with
   | nil=>simp[RdL] at h
   | cons y ys=>
    have htail:RdL w X ρ l ys:=⟨by simpa using h.1,fun i c y h1 h2=>h.2 (i+1) c y (by simpa using h1) (by simpa using h2)⟩
    obtain⟨e1,e2,e3⟩:=KM htail hxs
    refine⟨by simp[e1],⟨by simpa using e2.1,fun i t y' h1 h2=>?_⟩,?_⟩
    ·cases i with
     | zero=>
      simp at h1 h2
      subst h1;subst h2
      rcases h.2 0 _ _ rfl rfl with hh | hh
      ·cases hh
      ·exact hh
     | succ i=>exact e2.2 i t y' (by simpa using h1) (by simpa using h2)
    ·intro t ht
     rcases List.mem_cons.1 ht with rfl | ht
     ·exact hn
     ·exact e3 t ht
  ·cases ht
theorem GW{n:Nat}{ts:List T}(hn:ts.length=n)(h:∀t∈ts,∀l,t≠.agg l):(Mq n ts).cells=ts:=by
 unfold Mq
 split
 ·rename_i t l
  have:l=[]:=List.eq_nil_of_length_eq_zero (by simpa using hn)
  subst this
  cases t with
  | agg l=>exact(h _ (by simp) l rfl).elim
  | v x=>rfl
  | sl k l=>rfl
 ·rfl
end
def C.shift(off:Nat):C→Option C
 | .box k j=>some (.box k (j+off))
 | .pe n x j=>some (.pe n x (j+off))
 | .elt k n i j=>some (.elt k n i (j+off))
 | _=>none
theorem SL{w:World}{X:Nat→Prop}{ρ:fN}{c c':C}{y:Value}{off:Nat}(h:RdC1 w X ρ c y)(hc:c.shift off=some c'):
 ∃a,y=.pointer (some a)∧RdC w X ρ c' (.pointer (some (a.add off))):=by
 rcases h with h | ⟨h,_⟩
 ·subst h;cases hc
 ·unfold C.shift at hc
  split at hc <;> first
   | (cases hc;done)
   | skip
  ·cases hc
   obtain⟨v,h1,a,h2,h3⟩:=h
   exact⟨_,h3,v,h1,a,h2,by rw[kG]⟩
  ·cases hc
   obtain⟨a,h1,h2⟩:=h
   exact⟨_,h1,a,by rw[kG],h2⟩
  ·cases hc
   obtain⟨v,h1,a,h2,h3⟩:=h
   exact⟨_,h3,v,h1,a,h2,by rw[kG,Nat.add_assoc]⟩
section
variable {R:Type} (P:Program)
def Ov(b:Bool)(l:List C):D:=if b then .s (.agg l) else match l with
 | c::_=>.s (.c c)
 | []=>D.top
def O.cells?:O→Option (List C)
 | .box l=>some l
 | .fbox l=>some l
 | _=>none
def rL(objs:List O):Nat→Nat→Option Nat
 | 0,_=>none
 | f+1,k=>match objs[k]? with
  | some (.rr _ _ _ _ _)=>some k
  | some (.fwd k')=>rL objs f k'
  | _=>none
def nV(st:St)(t:TypeId)(d:D)(k:D→Option R):Option R:=
 match pA P t,nU P t with
 | some n,some b=>if b=false∧n≠1 then none else mE d fun c=>match c with
  | .box key j=>match (st.objs[key]?).bind O.cells? with
   | some cs=>match KK cs j n b with
    | some s=>k (.s s)
    | none=>none
   | none=>none
  | .pe m x j=>if j+n≤m then k (Ov b (uI x j n)) else none
  | .elt key m i j=>match st.objs[key]? with
   | some (.row _ _ m' es)=>if m=m'∧j+n≤m then ob (idxN es i) fun x=>k (Ov b (uI x j n)) else none
   | _=>none
  | .elr key i=>match rL st.objs 64 key with
   | some K=>match st.objs[K]? with
    | some (.rr none _ _ _ l)=>if b=false then ob (idxN l i) fun _=>k (.s (.c (.inn K i))) else none
    | _=>none
   | none=>none
  | _=>none
 | _,_=>none
variable {P} {w0 w:World} {F Xc:Nat→Prop} {ρ0:Base} {ρ:fN} {st:St} {a:Act} {r:R}
theorem Rel.cellsOf(h:Rel w0 F Xc ρ0 ρ st a w){key:Nat}{cs:List C}(hob:(st.objs[key]?).bind O.cells?=some cs):
 ∃hv g ys ty,ρ key=some hv∧hv=.pointer (some ⟨g,0,none⟩)∧w.heap[g]?=some (.cells ys ty (0,0))∧RdL w (XB st.objs ρ Xc) ρ cs ys.toList:=by
 obtain⟨o,ho,hc⟩:=Option.bind_eq_some_iff.1 hob
 have hk:=h.objs key o ho
 cases o with
 | box l=>cases hc;obtain⟨hv,e1,g,ys,ty,e2,e3,_,e4⟩:=hk;exact⟨hv,g,ys,ty,e1,e2,e3,e4⟩
 | fbox l=>cases hc;obtain⟨hv,e1,g,ys,ty,e2,e3,e4,_⟩:=hk;exact⟨hv,g,ys,ty,e1,e2,e3,e4⟩
 | _=>cases hc
theorem kU{t:TypeId}{n:Nat}{b:Bool}{ad:Addr}{ys:List Value}(hn:pA P t=some n)(hb:nU P t=some b)(h1:b=false→n=1)(hl:ys.length=n)
 (hc:∀(i:Nat) y,ys[i]?=some y→w.cell? (ad.add i)=some y):
 (loadVar t ad).run P w=.ok (if b then .agg ys.toArray else ys.headD undef) w:=by
 unfold loadVar
 simp only[Sem.run_bind,GU hb,Result.andThen_ok]
 cases b with
 | true=>
  simp only[if_true,Sem.run_bind,bP hn,Result.andThen_ok,←hl,run_loadCells_list w ad ys hc,Sem.run_pure]
 | false=>
  have hn1:=h1 rfl
  subst hn1
  match ys,hl with
  | [y],_=>
   have:=hc 0 y rfl
   have e:ad.add 0=ad:=rfl
   rw[e] at this
   simp[run_load,this]
theorem Br{X:Nat→Prop}{b:Bool}{l:List C}{ys:List Value}(h:RdL w X ρ l ys)(h1:b=false→ys.length=1):RdD w X ρ (Ov b l) (if b then .agg ys.toArray else ys.headD undef):=by
 cases b with
 | true=>exact⟨_,rfl,h⟩
 | false=>
  have hl:=h.1
  have:=h1 rfl
  match ys,l,this,hl with
  | [y],[c],_,_=>exact h.2 0 c y rfl rfl
theorem uJ(h:Rel w0 F Xc ρ0 ρ st a w):∀{f key K:Nat} {vs:Array Value},rL st.objs f key=some K→ρ key=some (.tuple vs) →
 ∃hole e e2 n l vs',st.objs[K]?=some (.rr hole e e2 n l)∧ρ K=some (.tuple vs')∧vs'[0]?=vs[0]?∧okR w (XB st.objs ρ Xc) hole e e2 n l (.tuple vs')
 | 0,_,_,_,hr,_=>by simp[rL] at hr
 | f+1,key,K,vs,hr,hv=>by
  simp only[rL] at hr
  split at hr
  ·rename_i hole e e2 n l hob
   cases hr
   obtain⟨v,e1,e2'⟩:=h.objs _ _ hob
   rw[hv] at e1
   cases e1
   exact⟨_,_,_,_,_,vs,hob,hv,rfl,e2'⟩
  ·rename_i k' hob
   obtain⟨v,e1,us,us',g1,g2,g3⟩:=h.objs _ _ hob
   rw[hv] at e1
   cases e1
   cases g1
   obtain⟨hole,e,e2,n,l,vs',q1,q2,q3,q4⟩:=uJ h hr g2
   exact⟨hole,e,e2,n,l,vs',q1,q2,q3.trans g3,q4⟩
  ·cases hr
theorem okR.head{X:Nat→Prop}{hole:Option Nat}{e e2:TypeId}{n:Nat}{l:List (List T)}{vs:Array Value}{v:Value}(h:okR w X hole e e2 n l (.tuple vs))(hv:vs[0]?=some v):
 1000000000≤e∨(v=.slice none 0 0∧l=[])∨∃a cap,v=.slice (some a) l.length cap:=by
 obtain⟨h0,ho,hs,xs,g1,g2,g3,_⟩:=h
 cases g1
 have:ho=v:=by simpa using hv
 subst this
 rcases g2 with⟨_,g2⟩ | ⟨g2,_⟩
 case inr=>exact .inl g2
 rcases g2.2 with⟨hn | ⟨a,hn⟩,hz⟩ | ⟨g,off,cap,cur,hn,_⟩
 ·exact .inr (.inl ⟨hn,List.eq_nil_of_length_eq_zero hz⟩)
 ·exact .inr (.inr ⟨a,0,by rw[hn,hz]⟩)
 ·exact .inr (.inr ⟨_,cap,hn⟩)
theorem SM{t:TypeId}{d:D}{v:Value}{k:D→Option R}(h:Rel w0 F Xc ρ0 ρ st a w)(hd:RdD w (XB st.objs ρ Xc) ρ d v)(hk:nV P st t d k=some r):
 ∃s y,(Instr.loadAt t v).run P w=.ok y w∧RdD w (XB st.objs ρ Xc) ρ s y∧k s=some r:=by
 unfold nV at hk
 split at hk
 case h_2=>cases hk
 rename_i n b hn hb
 split at hk
 case isTrue=>cases hk
 rename_i hnb
 have hb1:b=false→n=1:=fun e=>by
  apply Classical.byContradiction;intro hh;exact hnb ⟨e,hh⟩
 obtain⟨c,rfl,hc,hk⟩:=jJ hd hk
 cases c with
 | box key j=>
  dsimp only at hk
  split at hk
  case h_2=>cases hk
  rename_i cs hob
  split at hk
  case h_2=>cases hk
  rename_i s hsub
  rcases hc with hc | ⟨⟨hv,e1,ba,e2,e3⟩,_⟩
  ·cases hc
  ·obtain⟨hv',g,ys,ty,f1,f2,f3,f4⟩:=h.cellsOf hob
   rw[e1] at f1
   cases f1
   rw[f2] at e2
   simp only[zJ,Option.some.injEq] at e2
   subst e2
   subst e3
   have hadd:(⟨g,0,none⟩:Addr).add j=⟨g,j,none⟩:=by unfold Addr.add;split <;> simp_all
   have hlen:=f4.1
   rw[Array.length_toList] at hlen
   have hcell:∀i:Nat,w.cell? ((⟨g,0,none⟩:Addr).add i)=ys[i]?:=fun i=>by
    have:(⟨g,0,none⟩:Addr).add i=⟨g,i,none⟩:=by unfold Addr.add;split <;> simp_all
    rw[this,cell_of_row w g i ys ty (0,0) f3]
   cases b with
   | true=>
    simp only[KK,if_true] at hsub
    split at hsub
    ·rename_i hle
     cases hsub
     have hl':((ys.toList.drop j).take n).length=n:=by simp;omega
     refine⟨.s (.agg ((cs.drop j).take n)),.agg ((ys.toList.drop j).take n).toArray,?_,⟨_,rfl,(f4.drop j).take n⟩,hk⟩
     simp only[Instr.loadAt,Instr.sureAddr,Sem.run_bind,Sem.run_pure,Result.andThen_ok]
     rw[kU hn hb hb1 hl' (fun i y hi=>?_)]
     ·simp
     ·rw[List.getElem?_take] at hi
      split at hi
      ·rw[List.getElem?_drop] at hi
       rw[kG,hcell,←Array.getElem?_toList]
       exact hi
      ·cases hi
    ·cases hsub
   | false=>
    have hn1:=hb1 rfl
    subst hn1
    simp only[KK,Bool.false_eq_true,if_false] at hsub
    cases hcc:cs[j]? with
    | none=>simp[hcc] at hsub
    | some c'=>
     simp only[hcc,Option.map_some,Option.some.injEq] at hsub
     subst hsub
     have hlt:j<cs.length:=(List.getElem?_eq_some_iff.1 hcc).1
     have hy:ys[j]?=some (ys[j]'(by omega)):=Array.getElem?_eq_getElem _
     refine⟨.s (.c c'),ys[j]'(by omega),?_,f4.2 j c' _ hcc (by rw[Array.getElem?_toList];exact hy),hk⟩
     simp only[Instr.loadAt,Instr.sureAddr,Sem.run_bind,Sem.run_pure,Result.andThen_ok]
     rw[kU (ys:=[ys[j]'(by omega)]) hn hb hb1 rfl (fun i y hi=>?_)]
     ·rfl
     ·cases i with
      | zero=>
       simp only[List.getElem?_cons_zero,Option.some.injEq] at hi
       rw[kG,Nat.add_zero,hcell,hy,hi]
      | succ i=>simp at hi
 | pe m x j=>
  dsimp only at hk
  split at hk
  case isFalse=>cases hk
  rename_i hle
  rcases hc with hc | ⟨⟨ad,rfl,hp⟩,_⟩
  ·cases hc
  ·obtain⟨ys,e1,e2,e3⟩:=hp.cells (ρ:=ρ) hle
   refine⟨_,_,?_,Br e3 (fun e=>by rw[e1];exact hb1 e),hk⟩
   simp only[Instr.loadAt,Instr.sureAddr,Sem.run_bind,Sem.run_pure,Result.andThen_ok]
   exact kU hn hb hb1 e1 e2
 | elt key m i j=>
  dsimp only at hk
  split at hk
  case h_2=>cases hk
  rename_i fz e m' es hob
  split at hk
  case isFalse=>cases hk
  rename_i hle
  obtain⟨rfl,hle⟩:=hle
  obtain⟨x,hx,hk⟩:=aC hk
  rcases hc with hc | ⟨⟨hv,e1,ba,e2,e3⟩,_⟩
  ·cases hc
  ·obtain⟨hv',f1,f2⟩:=h.objs key _ hob
   rw[e1] at f1
   cases f1
   obtain⟨a',ys,g1,g2,g3,g4⟩:=Bq f2 (vX hx) hle
   rw[e2] at g1
   cases g1
   subst e3
   refine⟨_,_,?_,Br g4 (fun e=>by rw[g2];exact hb1 e),hk⟩
   simp only[Instr.loadAt,Instr.sureAddr,Sem.run_bind,Sem.run_pure,Result.andThen_ok]
   exact kU hn hb hb1 g2 g3
 | elr key i=>
  dsimp only at hk
  split at hk
  case h_2=>cases hk
  rename_i K hK
  split at hk
  case h_2=>cases hk
  rename_i e0 e20 n0 l0 hob
  split at hk
  case isFalse=>cases hk
  rename_i hbf
  obtain⟨x,hx,hk9⟩:=aC hk
  clear hk
  subst hbf
  rcases hc with hc | ⟨⟨vs,hv,e1,e2,ba,e3,e4⟩,_⟩
  ·cases hc
  ·obtain⟨hole,e,e2',n',l,vs',q1,q2,q3,q4⟩:=uJ h hK e1
   rw[hob] at q1
   cases q1
   obtain⟨h0,ho,hs,xs,g1,g2,g3,g4,g5,g6⟩:=q4
   cases g1
   rw[e2] at q3
   have hho:ho=hv:=by simpa using q3
   subst hho
   have hn1:=hb1 rfl
   subst hn1
   have hil:i<l0.length:=(List.getElem?_eq_some_iff.1 (vX hx)).1
   replace g2:=(g2.row e3).2
   have hxl:=g2.1
   rw[Nat.mul_one] at hxl
   have hxi:xs[i]?=some xs[i]:=List.getElem?_eq_getElem (by omega)
   have hhi:hs[i]?=some hs[i]:=List.getElem?_eq_getElem (by omega)
   obtain⟨f1,f2⟩:=g4 i _ _ hxi hhi
   have f3:=f2 (by simp)
   refine⟨.s (.c (.inn K i)),xs[i],?_,RdD.one (c:=.inn K i) ⟨_,q2,?_⟩ f1,hk9⟩
   ·simp only[Instr.loadAt,Instr.sureAddr,e4,Sem.run_bind,Sem.run_pure,Result.andThen_ok]
    rw[kU (ys:=[xs[i]]) hn hb hb1 rfl (fun q y hq=>?_)]
    ·rfl
    ·cases q with
     | zero=>
      simp only[List.getElem?_cons_zero,Option.some.injEq] at hq
      subst hq
      have hsl:∃len cap,ho=.slice (some ba) len cap:=by
       rcases g2.2 with⟨hn | ⟨a',hn⟩,hz⟩ | ⟨g,off,cap,cur,hn,_⟩
       ·omega
       ·omega
       ·subst hn;simp only[zJ,Option.some.injEq] at e3;subst e3;exact⟨_,_,rfl⟩
      obtain⟨len,cap,hsl⟩:=hsl
      have:=g2.cells hsl i _ hxi
      rw[kG,Nat.add_zero]
      exact this
     | succ q=>simp at hq
   ·simp only[List.getElem?_toArray,List.getElem?_cons_succ]
    rw[hhi,f3]
 | rk _=>cases hk
 | inn _ _=>cases hk
 | t x=>cases hk
 | row k'=>cases hk
 | fn f' cs'=>cases hk
 | self _=>cases hk
 | cut _ _ _ _ _=>cases hk
 | amb=>cases hk
 | top=>cases hk
end
def C.rs:C→List Nat
 | .row k=>[k]
 | .cut k _ _ _ _=>[k]
 | _=>[]
def kE{α:Type}:List (Option α)→Option (List α)
 | []=>some []
 | some a::l=>(kE l).map (a::·)
 | none::_=>none
def e8:O→O
 | .row _ e n l=>.row true e n l
 | .mp _ e n l=>.mp true e n l
 | o=>o
def Bt:List O→Nat→List O
 | [],_=>[]
 | o::l,0=>e8 o::l
 | o::l,k+1=>o::Bt l k
def freezeL(objs:List O):List Nat→List O
 | []=>objs
 | k::l=>freezeL (Bt objs k) l
theorem XD:∀(objs:List O) (k:Nat),Bt objs k=(match objs[k]? with
 | some o=>objs.set k (e8 o)
 | none=>objs)
 | [],_=>rfl
 | o::l,0=>rfl
 | o::l,k+1=>by
  simp only[Bt,XD l k,List.getElem?_cons_succ]
  cases l[k]? <;> rfl
theorem freezeL_cons(objs:List O)(k:Nat)(l:List Nat):freezeL objs (k::l)=(match objs[k]? with
 | some o=>freezeL (objs.set k (e8 o)) l
 | none=>freezeL objs l):=by
 show freezeL (Bt objs k) l=_
 rw[XD]
 cases objs[k]? <;> rfl
theorem P6{α:Type}:∀{l:List (Option α)} {m:List α},kE l=some m→l=m.map some
 | [],m,h=>by simp only[kE,Option.some.injEq] at h;subst h;rfl
 | some a::l,m,h=>by
  simp only[kE] at h
  cases hs:kE l with
  | none=>simp[hs] at h
  | some q=>
   simp only[hs,Option.map_some,Option.some.injEq] at h
   subst h
   rw[P6 hs];rfl
 | none::l,m,h=>by simp[kE] at h
theorem qR{α β:Type}{f:α→Option β}{l:List α}{m:List β}(h:kE (l.map f)=some m):m.length=l.length∧∀(i:Nat) a,l[i]?=some a→∃b,m[i]?=some b∧f a=some b:=by
 have e:=P6 h
 have hl:m.length=l.length:=by have:=congrArg List.length e;simpa using this.symm
 refine⟨hl,fun i a hi=>?_⟩
 have:=congrArg (fun z=>z[i]?) e
 simp only[List.getElem?_map,hi,Option.map_some] at this
 cases hm:m[i]? with
 | none=>simp[hm] at this
 | some b=>simp only[hm,Option.map_some,Option.some.injEq] at this;exact⟨b,rfl,this⟩
theorem nD{α β:Type}{f:α→Option β}{l:List α}{m:List β}(h:kE (l.map f)=some m)(i:Nat)(b:β)(hi:m[i]?=some b):∃a,l[i]?=some a∧f a=some b:=by
 obtain⟨hl,hg⟩:=qR h
 have hlt:i<l.length:=by rw[←hl];exact(List.getElem?_eq_some_iff.1 hi).1
 obtain⟨b',h1,h2⟩:=hg i _ (List.getElem?_eq_getElem hlt)
 rw[hi] at h1
 cases h1
 exact⟨_,List.getElem?_eq_getElem hlt,h2⟩
section
variable {P:Program} {w0 w w':World} {F Xc X:Nat→Prop} {ρ0:Base} {ρ:fN} {st:St} {a:Act}
theorem Has.freeze{objs:List O}{k j b:Nat}{o:O}(ho:objs[k]?=some o)(h:Has (objs.set k (e8 o)) ρ j b):Has objs ρ j b∧(j=k→(∃l,o=.box l)∨(∃hole e e2 n l,o=.rr hole e e2 n l)∨∃cur e n l,o=.itr cur e n l):=by
 obtain⟨o',v,h1,h2,h3,h4⟩:=h
 have hlt:k<objs.length:=(List.getElem?_eq_some_iff.1 ho).1
 by_cases hj:k=j
 ·subst hj
  rw[List.getElem?_set_self hlt] at h1
  cases h1
  cases o with
  | box l=>exact⟨⟨_,v,ho,rfl,h3,h4⟩,fun _=>.inl ⟨l,rfl⟩⟩
  | rr hole e e2 n l=>exact⟨⟨_,v,ho,rfl,h3,h4⟩,fun _=>.inr (.inl ⟨_,_,_,_,_,rfl⟩)⟩
  | itr cur e n l=>exact⟨⟨_,v,ho,rfl,h3,h4⟩,fun _=>.inr (.inr ⟨_,_,_,_,rfl⟩)⟩
  | fwd k=>simp[e8,O.live] at h2
  | row fz e n l=>simp[e8,O.live] at h2
  | mp fz e n l=>simp[e8,O.live] at h2
  | fbox l=>simp[e8,O.live] at h2
  | dead=>simp[e8,O.live] at h2
  | fresh=>simp[e8,O.live] at h2
 ·rw[List.getElem?_set_ne hj] at h1
  exact⟨⟨o',v,h1,h2,h3,h4⟩,fun e=>(hj e.symm).elim⟩
theorem Rel.freeze1(h:Rel w0 F Xc ρ0 ρ st a w){k:Nat}{o:O}(ho:st.objs[k]?=some o):Rel w0 F Xc ρ0 ρ { st with objs:=st.objs.set k (e8 o) } a w:=by
 have hlt:k<st.objs.length:=(List.getElem?_eq_some_iff.1 ho).1
 have hX:∀b,XB (st.objs.set k (e8 o)) ρ Xc b→XB st.objs ρ Xc b:=fun b hb=>by
  rcases hb with⟨j,hj⟩ | hb
  ·exact .inl ⟨j,(Has.freeze ho hj).1⟩
  ·exact .inr hb
 have hs:Stp (fun _=>False) w w:=.refl _ w
 have hweak:∀{v:Value} {o':O},okO w (XB st.objs ρ Xc) ρ v o'→okO w (XB (st.objs.set k (e8 o)) ρ Xc) ρ v o':=fun hh=>hh.step hs (fun _ h=>h.elim) (fun b hb=>.inl (hX b hb)) (.refl _) (fun _ _ h=>h)
 refine⟨h.len,fun i d y h1 h2=>(h.env i d y h1 h2).step hs (fun _ h=>h.elim) (fun b hb=>.inl (hX b hb)) (.refl _),fun j o' hj=>?_,fun j j' b hj hj'=>h.sep j j' b (Has.freeze ho hj).1 (Has.freeze ho hj').1,
  fun b hb=>by obtain⟨j,hj⟩:=hb;exact h.own b ⟨j,(Has.freeze ho hj).1⟩,h.par,h.defers,h.frame,h.xcl,fun b hb=>by obtain⟨j,hj⟩:=hb;exact h.xc b ⟨j,(Has.freeze ho hj).1⟩,fun p hp=>(h.ext p hp).step hs (fun _ h=>h.elim) (fun b hb=>.inl (hX b hb)) (.refl _)⟩
 by_cases hjk:k=j
 ·subst hjk
  rw[List.getElem?_set_self hlt] at hj
  cases hj
  have hk:=h.objs k o ho
  cases o with
  | box l=>obtain⟨v,e1,e2⟩:=hk;exact⟨v,e1,hweak e2⟩
  | row fz e n l=>
   obtain⟨v,e1,e2⟩:=hk
   refine⟨v,e1,?_⟩
   obtain⟨q1,q2,q3,q4⟩:=hweak e2
   refine⟨q1,q2,q3,fun _ b hb hx=>?_⟩
   cases fz with
   | true=>exact q4 rfl b hb hx
   | false=>
    rcases hx with⟨j,hj⟩ | hx
    ·obtain⟨hj1,hj2⟩:=Has.freeze ho hj
     have hjk:=h.sep j k b hj1 ⟨_,v,ho,rfl,e1,.inl hb⟩
     rcases hj2 hjk with⟨l',hl'⟩ | ⟨_,_,_,_,_,hl'⟩ | ⟨_,_,_,_,hl'⟩ <;> cases hl'
    ·exact h.xc b ⟨k,_,v,ho,rfl,e1,.inl hb⟩ hx
  | mp fz e n l=>
   obtain⟨v,e1,e2⟩:=hk
   refine⟨v,e1,?_⟩
   obtain⟨q1,g,es,clock,q2,q3,q4,q5⟩:=hweak e2
   refine⟨q1,g,es,clock,q2,q3,q4,fun _ hx=>?_⟩
   have hb:blk v=some g:=by rw[q2];rfl
   cases fz with
   | true=>exact q5 rfl hx
   | false=>
    rcases hx with⟨j,hj⟩ | hx
    ·obtain⟨hj1,hj2⟩:=Has.freeze ho hj
     have hjk:=h.sep j k g hj1 ⟨_,v,ho,rfl,e1,.inl hb⟩
     rcases hj2 hjk with⟨l',hl'⟩ | ⟨_,_,_,_,_,hl'⟩ | ⟨_,_,_,_,hl'⟩ <;> cases hl'
    ·exact h.xc g ⟨k,_,v,ho,rfl,e1,.inl hb⟩ hx
  | fbox l=>obtain⟨v,e1,e2⟩:=hk;exact⟨v,e1,hweak e2⟩
  | rr hole e e2 n l=>obtain⟨v,e1,e2⟩:=hk;exact⟨v,e1,hweak (o':=.rr hole e _ n l) e2⟩
  | itr cur e n l=>obtain⟨v,e1,e2⟩:=hk;exact⟨v,e1,hweak (o':=.itr cur e n l) e2⟩
  | fwd k=>exact hk
  | dead=>trivial
  | fresh=>exact hk
 ·rw[List.getElem?_set_ne hjk] at hj
  have hk:=h.objs j o' hj
  cases o' with
  | box l=>obtain⟨v,e1,e2⟩:=hk;exact⟨v,e1,hweak e2⟩
  | row fz e n l=>obtain⟨v,e1,e2⟩:=hk;exact⟨v,e1,hweak e2⟩
  | mp fz e n l=>obtain⟨v,e1,e2⟩:=hk;exact⟨v,e1,hweak e2⟩
  | fbox l=>obtain⟨v,e1,e2⟩:=hk;exact⟨v,e1,hweak e2⟩
  | rr hole e e2 n l=>obtain⟨v,e1,e2⟩:=hk;exact⟨v,e1,hweak (o':=.rr hole e _ n l) e2⟩
  | itr cur e n l=>obtain⟨v,e1,e2⟩:=hk;exact⟨v,e1,hweak (o':=.itr cur e n l) e2⟩
  | fwd k=>exact hk
  | dead=>trivial
  | fresh=>exact hk
theorem kV:∀(rows:List Nat) (objs:List O) (k:Nat) (fz:Bool) (e n:Nat) (l:List T),objs[k]?=some (.row fz e n l) →
 ∃fz',(freezeL objs rows)[k]?=some (.row fz' e n l)∧(fz=true∨k∈rows→fz'=true)
 | [],objs,k,fz,e,n,l,h=>⟨fz,h,fun hh=>hh.elim id (fun hm=>by simp at hm)⟩
 | q::rows,objs,k,fz,e,n,l,h=>by
  simp only[freezeL_cons]
  split
  ·rename_i o ho
   by_cases hq:q=k
   ·subst hq
    rw[h] at ho
    cases ho
    obtain⟨fz',h1,h2⟩:=kV rows (objs.set q (e8 (.row fz e n l))) q true e n l (by rw[List.getElem?_set_self (List.getElem?_eq_some_iff.1 h).1];rfl)
    exact⟨fz',h1,fun _=>h2 (.inl rfl)⟩
   ·obtain⟨fz',h1,h2⟩:=kV rows (objs.set q (e8 o)) k fz e n l (by rw[List.getElem?_set_ne hq];exact h)
    refine⟨fz',h1,fun hh=>h2 ?_⟩
    rcases hh with hh | hh
    ·exact .inl hh
    ·rcases List.mem_cons.1 hh with hh | hh
     ·exact(hq hh.symm).elim
     ·exact .inr hh
  ·rename_i ho
   obtain⟨fz',h1,h2⟩:=kV rows objs k fz e n l h
   refine⟨fz',h1,fun hh=>h2 ?_⟩
   rcases hh with hh | hh
   ·exact .inl hh
   ·rcases List.mem_cons.1 hh with hh | hh
    ·subst hh;rw[h] at ho;cases ho
    ·exact .inr hh
theorem pL:∀(rows:List Nat) (objs:List O) (k:Nat) (fz:Bool) (e n:Nat) (l:List T),objs[k]?=some (.mp fz e n l) →
 ∃fz',(freezeL objs rows)[k]?=some (.mp fz' e n l)∧(fz=true∨k∈rows→fz'=true)
 | [],objs,k,fz,e,n,l,h=>⟨fz,h,fun hh=>hh.elim id (fun hm=>by simp at hm)⟩
 | q::rows,objs,k,fz,e,n,l,h=>by
  simp only[freezeL_cons]
  split
  ·rename_i o ho
   by_cases hq:q=k
   ·subst hq
    rw[h] at ho
    cases ho
    obtain⟨fz',h1,h2⟩:=pL rows (objs.set q (e8 (.mp fz e n l))) q true e n l (by rw[List.getElem?_set_self (List.getElem?_eq_some_iff.1 h).1];rfl)
    exact⟨fz',h1,fun _=>h2 (.inl rfl)⟩
   ·obtain⟨fz',h1,h2⟩:=pL rows (objs.set q (e8 o)) k fz e n l (by rw[List.getElem?_set_ne hq];exact h)
    refine⟨fz',h1,fun hh=>h2 ?_⟩
    rcases hh with hh | hh
    ·exact .inl hh
    ·rcases List.mem_cons.1 hh with hh | hh
     ·exact(hq hh.symm).elim
     ·exact .inr hh
  ·rename_i ho
   obtain⟨fz',h1,h2⟩:=pL rows objs k fz e n l h
   refine⟨fz',h1,fun hh=>h2 ?_⟩
   rcases hh with hh | hh
   ·exact .inl hh
   ·rcases List.mem_cons.1 hh with hh | hh
    ·subst hh;rw[h] at ho;cases ho
    ·exact .inr hh
theorem Rel.freeze(rows:List Nat):∀{st:St},Rel w0 F Xc ρ0 ρ st a w→Rel w0 F Xc ρ0 ρ { st with objs:=freezeL st.objs rows } a w:=by
 induction rows with
 | nil=>intro st h;exact h
 | cons q rows ih=>
  intro st h
  simp only[freezeL_cons]
  split
  ·rename_i o ho
   exact ih (h.freeze1 ho)
  ·exact ih h
theorem GX:∀(rows:List Nat) (objs:List O) (b:Nat),XB (freezeL objs rows) ρ Xc b→XB objs ρ Xc b
 | [],_,_,h=>h
 | q::rows,objs,b,h=>by
  simp only[freezeL_cons] at h
  split at h
  ·rename_i o ho
   rcases GX rows _ b h with⟨j,hj⟩ | hb
   ·exact .inl ⟨j,(Has.freeze ho hj).1⟩
   ·exact .inr hb
  ·exact GX rows objs b h
def O.rowy:O→Bool
 | .row _ _ _ _=>true
 | .mp _ _ _ _=>true
 | _=>false
def O.rowf:O→Bool
 | .row fz _ _ _=>!fz
 | .mp fz _ _ _=>!fz
 | .rr none _ _ _ _=>true
 | .itr none _ _ _=>true
 | _=>false
def O.frozen:O→Bool
 | .row fz _ _ _=>fz
 | .mp fz _ _ _=>fz
 | _=>false
def O.giv:O→Bool
 | .row _ _ _ _=>true
 | .mp _ _ _ _=>true
 | .rr none _ _ _ _=>true
 | _=>false
theorem O.giv_live{o:O}(h:o.giv=true)(hf:o.frozen=false):o.live=true:=by
 cases o <;> first | rfl | (cases h;done) | (simp only[O.frozen] at hf;subst hf;rfl)
theorem O.rowf_live{o:O}(h:o.rowf=true):o.live=true:=by cases o <;> first | exact h | rfl | cases h
theorem xE(e:TypeId)(n:Nat)(l:List T):(KI e n l).rowf=true:=by
 unfold KI
 split
 ·rfl
 ·split <;> rfl
theorem U2{rows:List Nat}{objs:List O}{k:Nat}{o:O}(h:objs[k]?=some o)(ho:o.rowy=true)(hk:k∈rows):∃o',(freezeL objs rows)[k]?=some o'∧o'.frozen=true:=by
 cases o with
 | row fz e n l=>
  obtain⟨fz',h1,h2⟩:=kV rows objs k fz e n l h
  exact⟨_,h1,h2 (.inr hk)⟩
 | mp fz e n l=>
  obtain⟨fz',h1,h2⟩:=pL rows objs k fz e n l h
  exact⟨_,h1,h2 (.inr hk)⟩
 | box l=>cases ho
 | fbox l=>cases ho
 | rr hole e e2 n l=>cases ho
 | fwd k=>cases ho
 | itr cur e n l=>cases ho
 | dead=>cases ho
 | fresh=>cases ho
theorem okO.frozen{X:Nat→Prop}{v:Value}{o:O}(h:okO w X ρ v o)(hf:o.frozen=true):∀b,blk v=some b→¬X b:=by
 intro b hb
 cases o with
 | row fz e n l=>exact h.2.2.2 hf b hb
 | mp fz e n l=>
  obtain⟨_,g,es,clock,q2,_,_,q5⟩:=h
  rw[q2] at hb
  simp only[blk,Option.some.injEq] at hb
  exact hb▸q5 hf
 | box l=>cases hf
 | fbox l=>cases hf
 | rr hole e e2 n l=>cases hf
 | fwd k=>cases hf
 | itr cur e n l=>cases hf
 | dead=>cases hf
 | fresh=>cases hf
def Bu(objs:List O):C→Option C
 | .row key=>match objs[key]? with
  | some (.row _ _ n es)=>some (.t (.sl n es))
  | some (.mp _ _ n es)=>some (.t (.sl n es))
  | _=>none
 | .cut key n lo len _=>match objs[key]? with
  | some (.row _ _ n' es)=>if n'=n then some (.t (.sl n (iR es lo len))) else none
  | _=>none
 | c=>some c
def GY(objs:List O)(cs:List C):Option (List O×List C):=(kE (cs.map (Bu objs))).map fun l=>(freezeL objs (cs.flatMap C.rs),l)
theorem EZ{objs':List O}{cs cs':List C}{ys:List Value}(h:Rel w0 F Xc ρ0 ρ st a w)(hl:RdL w (XB st.objs ρ Xc) ρ cs ys)(hk:GY st.objs cs=some (objs',cs')):
 Rel w0 F Xc ρ0 ρ { st with objs:=objs' } a w∧RdL w (XB objs' ρ Xc) ρ cs' ys:=by
 unfold GY at hk
 cases hs:kE (cs.map (Bu st.objs)) with
 | none=>simp[hs] at hk
 | some l=>
  simp only[hs,Option.map_some,Option.some.injEq,Prod.mk.injEq] at hk
  obtain⟨rfl,rfl⟩:=hk
  have hR:=h.freeze (cs.flatMap C.rs)
  refine⟨hR,?_⟩
  obtain⟨q1,q2⟩:=qR hs
  refine⟨hl.1.trans q1.symm,fun i c y h1 h2=>?_⟩
  obtain⟨c0,g1,g2⟩:=nD hs i c h1
  have hy:=hl.2 i c0 y g1 h2
  have hX:∀b,XB (freezeL st.objs (cs.flatMap C.rs)) ρ Xc b→XB st.objs ρ Xc b:=GX (cs.flatMap C.rs) st.objs
  have hweak:RdC1 w (XB (freezeL st.objs (cs.flatMap C.rs)) ρ Xc) ρ c0 y:=hy.step (Stp.refl (fun _=>False) w) (fun _ h=>h.elim) (fun b hb=>.inl (hX b hb)) (.refl _)
  unfold Bu at g2
  split at g2
  ·rename_i key
   split at g2
   ·rename_i fz e n es hob
    cases g2
    obtain⟨fz',f1,f2⟩:=kV (cs.flatMap C.rs) st.objs key fz e n es hob
    have hfz:=f2 (.inr (List.mem_flatMap.2 ⟨_,List.mem_of_getElem? g1,by simp[C.rs]⟩))
    subst hfz
    obtain⟨v,e1,e2⟩:=hR.objs key _ f1
    rcases hweak with hc | ⟨hc,h1'⟩
    ·cases hc
    ·have hcc:ρ key=some y:=hc
     rw[hcc] at e1
     cases e1
     exact .inr ⟨vW e2 (fun b hb=>hb) (fun b hb=>e2.2.2.2 rfl b hb),h1'⟩
   ·rename_i fz e n es hob
    cases g2
    obtain⟨fz',f1,f2⟩:=pL (cs.flatMap C.rs) st.objs key fz e n es hob
    have hfz:=f2 (.inr (List.mem_flatMap.2 ⟨_,List.mem_of_getElem? g1,by simp[C.rs]⟩))
    subst hfz
    obtain⟨v,e1,e2⟩:=hR.objs key _ f1
    rcases hweak with hc | ⟨hc,h1'⟩
    ·cases hc
    ·have hcc:ρ key=some y:=hc
     rw[hcc] at e1
     cases e1
     refine .inr ⟨P5 e2 (fun b hb=>hb) (fun b hb=>?_),h1'⟩
     obtain⟨_,g,es',clock,q2,_,_,q5⟩:=e2
     rw[q2] at hb
     simp only[blk,Option.some.injEq] at hb
     exact hb▸q5 rfl
   ·cases g2
  ·rename_i key n lo len tg
   split at g2
   ·rename_i fz e n' es hob
    split at g2
    ·rename_i hn
     subst hn
     cases g2
     obtain⟨fz',f1,f2⟩:=kV (cs.flatMap C.rs) st.objs key fz e n' es hob
     have hfz:=f2 (.inr (List.mem_flatMap.2 ⟨_,List.mem_of_getElem? g1,by simp[C.rs]⟩))
     subst hfz
     obtain⟨v,e1,e2⟩:=hR.objs key _ f1
     rcases hweak with hc | ⟨⟨v',q1,q2⟩,h1'⟩
     ·cases hc
     ·rw[q1] at e1
      cases e1
      exact .inr ⟨KL e2 q2 (fun b hb=>hb) (fun b hb=>e2.2.2.2 rfl b hb),h1'⟩
    ·cases g2
   ·cases g2
  ·cases g2;exact hweak
end
section
variable {R:Type} (P:Program)
def Ow{R:Type}(u:Option TypeDesc)(cs:List C)(k:List T→Option R):Option R:=match u,cs with
 | some (.int kd),[.t x]=>ob (x.int? kd) fun n=>k [.v (.int kd n)]
 | some .bool,[.t x]=>ob x.bool? fun b=>k [.v (.bool b)]
 | some .string,[.t x]=>ob x.str? fun s=>k [.v (.string s)]
 | _,cs=>match BZ cs with
  | some ts=>k ts
  | none=>none
def H5{R:Type}(P:Program)(t:TypeId)(c:C)(k:T→Option R):Option R:=match P.underlying t,c with
 | some (.int kd),.t x=>ob (x.int? kd) fun n=>k (.v (.int kd n))
 | some .bool,.t x=>ob x.bool? fun b=>k (.v (.bool b))
 | some .string,.t x=>ob x.str? fun s=>k (.v (.string s))
 | some (.slice e),.t x=>match pA P e with
  | some n=>if n<1000000000 then ob (x.sl? n) fun l=>k (.sl n l) else none
  | none=>none
 | _,c=>match c.tree? with
  | some x=>k x
  | none=>none
def fQ{R:Type}(P:Program):List TypeId→List C→(List T→Option R)→Option R
 | [],[],k=>k []
 | t::ts,c::cs,k=>H5 P t c fun x=>fQ P ts cs fun xs=>k (x::xs)
 | _,_,_=>none
theorem Bv{R:Type}{P:Program}{w:World}{X:Nat→Prop}{ρ:fN}{t:TypeId}{c:C}{y:Value}{k:T→Option R}{r:R}(h:RdC1 w X ρ c y)(hk:H5 P t c k=some r):
 ∃x,k x=some r∧Rd w X x y∧y.oneCell'=true∧∀l,x≠.agg l:=by
 unfold H5 at hk
 split at hk
 ·obtain⟨n,hn,hk1⟩:=aC hk
  rcases h with h | ⟨h,h1⟩
  ·cases h
  ·have:=P2 h hn;subst this;exact⟨_,hk1,.v _,rfl,fun l e=>by cases e⟩
 ·obtain⟨n,hn,hk1⟩:=aC hk
  rcases h with h | ⟨h,h1⟩
  ·cases h
  ·have:=P3 h hn;subst this;exact⟨_,hk1,.v _,rfl,fun l e=>by cases e⟩
 ·obtain⟨n,hn,hk1⟩:=aC hk
  rcases h with h | ⟨h,h1⟩
  ·cases h
  ·have:=UZ h hn;subst this;exact⟨_,hk1,.v _,rfl,fun l e=>by cases e⟩
 ·split at hk
  case h_2=>cases hk
  rename_i n hn
  split at hk
  case isFalse=>cases hk
  rename_i hnm
  obtain⟨l,hl,hk1⟩:=aC hk
  rcases h with h | ⟨h,h1⟩
  ·cases h
  ·unfold T.sl? at hl
   split at hl
   ·rw[if_pos hnm] at hl
    cases hl
    have:=Rd.inv_v h
    subst this
    exact⟨_,hk1,.nil n hnm,rfl,fun l e=>by cases e⟩
   ·split at hl
    ·rename_i hkk
     cases hl;subst hkk
     exact⟨_,hk1,h,h1,fun l e=>by cases e⟩
    ·cases hl
   ·cases hl
 ·split at hk
  ·rename_i x hx
   obtain⟨rfl,hn⟩:=SK hx
   rcases h with h | ⟨h,h1⟩
   ·cases h
   ·exact⟨_,hk,h,h1,hn⟩
  ·cases hk
theorem pM{R:Type}{P:Program}{w:World}{X:Nat→Prop}{ρ:fN}{r:R}:∀{ts:List TypeId} {cs:List C} {ys:List Value} {k:List T→Option R},RdL w X ρ cs ys→fQ P ts cs k=some r →
 ∃xs,k xs=some r∧xs.length=cs.length∧RdT w X xs ys∧∀t∈xs,∀l,t≠.agg l
 | [],[],ys,k,h,hk=>⟨[],hk,rfl,⟨by simpa using h.1,fun i t y h1 _=>by simp at h1⟩,by simp⟩
 | [],_::_,ys,k,h,hk=>by simp[fQ] at hk
 | _::_,[],ys,k,h,hk=>by simp[fQ] at hk
 | t::ts,c::cs,ys,k,h,hk=>by
  cases ys with
  | nil=>have:=h.1;simp at this
  | cons y ys=>
   simp only[fQ] at hk
   have htail:RdL w X ρ cs ys:=⟨by simpa using h.1,fun i c y h1 h2=>h.2 (i+1) c y (by simpa using h1) (by simpa using h2)⟩
   obtain⟨x,hk1,hx,h1,hn⟩:=Bv (h.2 0 _ y rfl rfl) hk
   obtain⟨xs,e1,e2,e3,e4⟩:=pM htail hk1
   refine⟨x::xs,e1,by simp[e2],⟨by simpa using e3.1,fun i t y' a1 a2=>?_⟩,?_⟩
   ·cases i with
    | zero=>simp at a1 a2;subst a1;subst a2;exact⟨hx,h1⟩
    | succ i=>exact e3.2 i t y' (by simpa using a1) (by simpa using a2)
   ·intro t ht
    rcases List.mem_cons.1 ht with rfl | ht
    ·exact hn
    ·exact e4 t ht
theorem U3{x:T}{kd:IntKind}{n:Int}(h:x.int? kd=some n):x=.v (.int kd n):=by
 unfold T.int? at h
 split at h
 ·split at h
  ·rename_i hk;cases h;subst hk;rfl
  ·cases h
 ·cases h
theorem U4{x:T}{s:ByteArray}(h:x.str?=some s):x=.v (.string s):=by
 unfold T.str? at h
 split at h
 ·cases h;rfl
 ·cases h
@[irreducible] def Mr(a b:Nat):Option Unit:=if a=b then some () else none
theorem E0{a b:Nat}{x:Unit}(h:Mr a b=some x):a=b:=by
 unfold Mr at h
 split at h
 ·assumption
 ·cases h
def rM(st:St)(t:TypeId)(d v:D)(k:St→Option R):Option R:=
 match pA P t,xD v with
 | some n,some cs=>if cs.length=n∧cs.all Ps=true then mE d fun c=>match c with
  | .box key j=>match st.objs[key]? with
   | some (.box l)=>if j+n≤l.length∧(0<j∨P0 (l.take j++cs++l.drop (j+n))=none) then k { st with objs:=st.objs.set key (.box (l.take j++cs++l.drop (j+n))) } else none
   | _=>none
  | .elt key m i j=>match GY st.objs cs with
   | some q=>match q.1[key]? with
    | some (.row false e m' es)=>fQ P ((P.cellTypes P.depth t).getD []) q.2 fun ts=>if m=m'∧j+n≤m then ob (idxN es i) fun x=>k { st with objs:=q.1.set key (.row false e m (es.set i (x.upd m j ts))) } else none
    | _=>none
   | none=>none
  | .elr key i=>match rL st.objs 64 key,cs with
   | some K,[.inn k3 i3]=>match st.objs[K]? with
    | some (.rr (some hi) e e2 m l)=>if k3=K then ob (Mr i i3) fun _=>ob (Mr hi i) fun _=>ob (idxN l i) fun _=>k { st with objs:=st.objs.set K (.rr none e e2 m l) } else none
    | _=>none
   | _,_=>none
  | _=>none
  else none
 | _,_=>none
def gM:Option O→Bool
 | some .fresh=>true
 | _=>false
def gR(st:St):Option Nat:=((List.range st.objs.length).filter fun i=>decide (st.np+st.env.length≤i)&&gM st.objs[i]?).head?
def f6(st:St)(dst:Option Nat)(o:O)(k:St→Nat→Option R):Option R:=
 match dst with
 | some d=>match st.objs[st.np+d]? with
  | some .fresh=>k { st with objs:=st.objs.set (st.np+d) o } (st.np+d)
  | _=>match st.objs[st.np+(st.env.length+d)]? with
   | some .fresh=>k { st with objs:=st.objs.set (st.np+(st.env.length+d)) o } (st.np+(st.env.length+d))
   | _=>match gR st with
    | some K=>k { st with objs:=st.objs.set K o } K
    | none=>none
 | none=>none
end
theorem jK(w:World)(g:Nat)(cs:Array Value):Stp (fun b=>b=g) w (w.setRow g cs):=
 ⟨rfl,rfl,rfl,by simp,fun b _ hb=>setRow_other w g b cs hb⟩
def upd(ρ:fN)(k:Nat)(h:Value):fN:=fun j=>if j=k then some h else ρ j
section
variable {R:Type} {P:Program} {w0 w w':World} {F Xc:Nat→Prop} {ρ0:Base} {ρ:fN} {st:St} {a:Act} {r:R}
theorem Rel.newG(h:Rel w0 F Xc ρ0 ρ st a w){key:Nat}{o:O}{hv:Value}(hf:st.objs[key]?=some .fresh)(hs:Stp (fun _=>False) w w')
 (hb:∀b,blkIn hv b→w.heap.size≤b)
 (hok:∀X',(∀b,X' b→XB st.objs ρ Xc b∨w.heap.size≤b)→okO w' X' (upd ρ key hv) hv o) (hnp:st.np≤key) (hof:o≠.fresh):
 Rel w0 F Xc ρ0 (upd ρ key hv) { st with objs:=st.objs.set key o } a w':=by
 have hnone:ρ key=none:=h.objs key _ hf
 have hlt:key<st.objs.length:=(List.getElem?_eq_some_iff.1 hf).1
 have hρ:Rle ρ (upd ρ key hv):=fun j v hj=>by
  unfold upd
  split
  ·rename_i e;subst e;rw[hnone] at hj;cases hj
  ·exact hj
 have hH:∀b,Has (st.objs.set key o) (upd ρ key hv) key b→blkIn hv b:=fun b hh=>by
  obtain⟨o',v,g1,g2,h3,h4⟩:=hh
  simp only[upd,if_true,Option.some.injEq] at h3
  exact h3▸h4
 refine h.change (st.objs.set key o) (upd ρ key hv) (·=key) hs (fun j hj=>⟨by rw[List.getElem?_set_ne (fun e=>hj e.symm)],by unfold upd;rw[if_neg hj]⟩) hρ (fun _ hb=>hb.elim)
  (fun j b hj hh=>?_) (fun j j' b hj hj' _ _=>hj.trans hj'.symm) (fun hX j o' hj ho=>?_) (fun j hj=>by unfold upd;rw[if_neg (by omega)])
 ·subst hj;exact .inr (hb b (hH b hh))
 ·subst hj
  rw[List.getElem?_set_self hlt] at ho
  cases ho
  have hk:=hok _ hX
  unfold Mp
  split
  ·trivial
  ·exact(hof rfl).elim
  ·exact⟨hv,by simp[upd],hk⟩
theorem Rel.new(h:Rel w0 F Xc ρ0 ρ st a w){key:Nat}{o:O}{hv:Value}(hf:st.objs[key]?=some .fresh)(hs:Stp (fun _=>False) w w')
 (hb:∀b,blk hv=some b→w.heap.size≤b)
 (hok:∀X',(∀b,X' b→XB st.objs ρ Xc b∨w.heap.size≤b)→okO w' X' (upd ρ key hv) hv o) (hnp:st.np≤key) (hof:o≠.fresh) (h1:hv.oneCell'=true:=by first | rfl | exact rowAt.one (by assumption)):
 Rel w0 F Xc ρ0 (upd ρ key hv) { st with objs:=st.objs.set key o } a w':=h.newG hf hs (fun b hb'=>hb b (hb'.one h1)) hok hnp hof
theorem Rel.newBox(h:Rel w0 F Xc ρ0 ρ st a w){key:Nat}{cs:List C}{ys:Array Value}(e:TypeId)(hf:st.objs[key]?=some .fresh)(hl:RdL w (XB st.objs ρ Xc) ρ cs ys.toList)(hhd:HeadOK cs w.heap.size ys e)(hnp:st.np≤key):
 ∃ρ',Rel w0 F Xc ρ0 ρ' { st with objs:=st.objs.set key (.box cs) } a (w.alloc (.cells ys e))∧Rle ρ ρ'∧ρ' key=some (.pointer (some ⟨w.heap.size,0,none⟩)):=by
 have hnone:ρ key=none:=h.objs key _ hf
 have hρ:Rle ρ (upd ρ key (.pointer (some ⟨w.heap.size,0,none⟩))):=fun j v hj=>by
  unfold upd
  split
  ·rename_i e;subst e;rw[hnone] at hj;cases hj
  ·exact hj
 refine⟨_,h.new (hv:=.pointer (some ⟨w.heap.size,0,none⟩)) hf (Stp.alloc _ _ _) (fun b hb=>by simp only[blk,Option.some.injEq] at hb;omega) (fun X' hX=>?_) hnp (by simp),hρ,by simp[upd]⟩
 exact⟨w.heap.size,ys,e,rfl,heap_alloc_new w _,hhd,hl.step (Stp.alloc (fun _=>False) _ _) (fun _ hb=>False.elim hb) hX hρ⟩
theorem uK{st:St}{K:Nat}(h:gR st=some K):st.np≤K∧st.objs[K]?=some .fresh:=by
 unfold gR at h
 have hm:=List.mem_of_mem_head? h
 obtain⟨_,h2⟩:=List.mem_filter.1 hm
 simp only[Bool.and_eq_true,decide_eq_true_eq] at h2
 refine⟨Nat.le_trans (Nat.le_add_right _ _) h2.1,?_⟩
 have:=h2.2
 unfold gM at this
 split at this
 ·rename_i ho;exact ho
 ·cases this
theorem r8{dst:Option Nat}{o:O}{k:St→Nat→Option R}(hk:f6 st dst o k=some r):
 ∃d,True∧st.objs[st.np+d]?=some .fresh∧k { st with objs:=st.objs.set (st.np+d) o } (st.np+d)=some r:=by
 unfold f6 at hk
 split at hk
 ·split at hk
  ·exact⟨_,trivial,by assumption,hk⟩
  ·split at hk
   ·exact⟨_,trivial,by assumption,hk⟩
   ·split at hk
    ·rename_i K hK
     obtain⟨h1,h2⟩:=uK hK
     obtain⟨q,rfl⟩:∃q,K=st.np+q:=⟨K-st.np,by omega⟩
     exact⟨q,trivial,h2,hk⟩
    ·cases hk
 ·cases hk
theorem Rel.setBox(h:Rel w0 F Xc ρ0 ρ st a w){key:Nat}{l l':List C}{hv:Value}{g:Nat}{ys zs:Array Value}{ty:TypeId}(ho:st.objs[key]?=some (.box l))(hh:ρ key=some hv)
 (hg:hv=.pointer (some ⟨g,0,none⟩)) (hw:w.heap[g]?=some (.cells ys ty (0,0))) (hhd:HeadOK l' g zs ty) (hl:RdL w (XB st.objs ρ Xc) ρ l' zs.toList):
 Rel w0 F Xc ρ0 ρ { st with objs:=st.objs.set key (.box l') } a (w.setRow g zs):=by
 have hlt:key<st.objs.length:=(List.getElem?_eq_some_iff.1 ho).1
 have hblk:blk hv=some g:=by rw[hg];rfl
 have hHas:Has st.objs ρ key g:=⟨_,hv,ho,rfl,hh,.inl hblk⟩
 have hH:∀b,Has (st.objs.set key (.box l')) ρ key b→b=g:=fun b hb=>by
  obtain⟨o',v,_,_,h3,h4⟩:=hb
  rw[hh] at h3
  cases h3
  replace h4:=h4.one (by rw[hg];rfl)
  rw[hblk] at h4
  cases h4
  rfl
 refine h.change _ ρ (·=key) (jK w g zs) (fun j hj=>⟨by rw[List.getElem?_set_ne (fun e=>hj e.symm)],rfl⟩) (.refl _) (fun b hb=>⟨key,rfl,hb▸hHas⟩)
  (fun j b hj hb=>?_) (fun j j' b hj hj' _ _=>hj.trans hj'.symm) (fun hX j o' hj ho'=>?_) (fun _ _=>rfl)
 ·subst hj
  exact .inl ⟨_,rfl,hH b hb▸hHas⟩
 ·subst hj
  rw[List.getElem?_set_self hlt] at ho'
  cases ho'
  refine⟨hv,hh,g,zs,ty,hg,setRow_heap w g ys zs ty (0,0) hw,hhd,hl.step (jK w g zs) (fun b hb=>?_) hX (.refl _)⟩
  exact .inl ⟨_,hb▸hHas⟩
theorem r9{t:TypeId}{n:Nat}{g j:Nat}{v:Value}{cur:Array Value}{ty:TypeId}(hn:pA P t=some n)(hv:v.cells.size=n)(hg:w.heap[g]?=some (.cells cur ty (0,0)))
 (hfit:j+n≤cur.size) (h1:∀x∈v.cells.toList,x.oneCell'=true):
 (storeVar t ⟨g,j,none⟩ v).run P w=.ok () (w.setRow g (cur.toList.take j++v.cells.toList++cur.toList.drop (j+n)).toArray):=by
 unfold storeVar
 simp only[Sem.run_bind,bP hn,Result.andThen_ok]
 rw[if_neg (by simp[hv])]
 have:=run_storeCells_at P g j ty v.cells.toList 0 cur w hg (by rw[Array.length_toList];omega) h1
 simp only[Nat.add_zero,Array.length_toList,hv] at this
 exact this
theorem qG{α:Type}(l:List α)(j n:Nat)(m:List α)(h:j+n≤l.length)(hm:m.length=n):(l.take j++m++l.drop (j+n)).length=l.length:=by
 simp;omega
theorem Bw{n:Nat}{l:List T}(hu:Uni n l){i j:Nat}{x:T}(hi:l[i]?=some x){ts:List T}(hj:j+ts.length≤n)(ht:∀t∈ts,∀m,t≠.agg m)
 (hx:∀t∈x.cells,∀m,t≠.agg m):
 Uni n (l.set i (x.upd n j ts))∧flat (l.set i (x.upd n j ts))=(flat l).take (i*n+j)++ts++(flat l).drop (i*n+j+ts.length):=by
 have hxn:x.cells.length=n:=hu x (List.mem_of_getElem? hi)
 obtain⟨hlt,rfl⟩:=List.getElem?_eq_some_iff.1 hi
 have hcells:∀t∈(l[i].cells.take j++ts++l[i].cells.drop (j+ts.length)),∀m,t≠.agg m:=by
  intro t htm
  simp only[List.mem_append] at htm
  rcases htm with(htm | htm) | htm
  ·exact hx t (List.mem_of_mem_take htm)
  ·exact ht t htm
  ·exact hx t (List.mem_of_mem_drop htm)
 have hcl:(l[i].upd n j ts).cells=l[i].cells.take j++ts++l[i].cells.drop (j+ts.length):=by
  unfold T.upd
  exact GW (by simp;omega) hcells
 constructor
 ·intro t htm
  rcases List.mem_or_eq_of_mem_set htm with h | rfl
  ·exact hu t h
  ·rw[hcl];simp;omega
 ·rw[List.set_eq_take_append_cons_drop,if_pos hlt,kS,gS,hcl]
  have e1:=hu.flat_take i
  have e2:=hu.flat_drop (i+1)
  have e3:=hu.flat_drop i
  rw[List.drop_eq_getElem_cons hlt,gS] at e3
  rw[e1,e2]
  have hle:i*n+n≤(flat l).length:=by
   rw[hu.length]
   have:(i+1)*n≤l.length*n:=Nat.mul_le_mul_right _ hlt
   rw[Nat.add_mul] at this;omega
  have c1:l[i].cells.take j=((flat l).drop (i*n)).take j:=by
   rw[←e3,List.take_append_of_le_length (by omega)]
  have c2:l[i].cells.drop (j+ts.length)=((flat l).drop (i*n+j+ts.length)).take (n-(j+ts.length)):=by
   have:=congrArg (fun z=>z.drop (j+ts.length)) e3
   simp only[List.drop_drop] at this
   rw[List.drop_append_of_le_length (by omega)] at this
   rw[show i*n+j+ts.length=i*n+(j+ts.length) by omega,←this,List.take_append_of_le_length (by simp;omega),List.take_of_length_le (by simp;omega)]
  rw[c1,c2]
  have f1:(flat l).take (i*n)++((flat l).drop (i*n)).take j=(flat l).take (i*n+j):=by rw[List.take_add]
  have f2:((flat l).drop (i*n+j+ts.length)).take (n-(j+ts.length))++(flat l).drop ((i+1)*n)=(flat l).drop (i*n+j+ts.length):=by
   have hsp:=List.take_append_drop (n-(j+ts.length)) ((flat l).drop (i*n+j+ts.length))
   rw[List.drop_drop] at hsp
   rw[show i*n+j+ts.length+(n-(j+ts.length))=(i+1)*n by rw[Nat.add_mul];omega] at hsp
   exact hsp
  simp only[List.append_assoc]
  rw[←List.append_assoc,f1,f2]
theorem RdT.noagg{X:Nat→Prop}{l:List T}{ys:List Value}(h:RdT w X l ys):∀t∈l,∀m,t≠.agg m:=by
 rintro t ht m rfl
 obtain⟨i,hi,he⟩:=List.getElem_of_mem ht
 have hl:=h.1
 have:=h.2 i _ (ys[i]'(by omega)) (List.getElem?_eq_getElem hi) (List.getElem?_eq_getElem _)
 rw[he] at this
 obtain⟨h1,h2⟩:=this
 generalize ys[i]'(by omega)=y at h1 h2
 cases h1
 simp[Value.oneCell'] at h2
theorem RdT.splice{X:Nat→Prop}{l m:List T}{ys zs:List Value}(h:RdT w X l ys)(h':RdT w X m zs){p:Nat}(hp:p+m.length≤l.length):
 RdT w X (l.take p++m++l.drop (p+m.length)) (ys.take p++zs++ys.drop (p+m.length)):=by
 have hl:=h.1
 have hl':=h'.1
 refine⟨by simp;omega,fun i t y h1 h2=>?_⟩
 simp only[List.append_assoc] at h1 h2
 rw[List.getElem?_append] at h1 h2
 simp only[List.length_take] at h1 h2
 rw[show min p l.length=p by omega] at h1
 rw[show min p ys.length=p by omega] at h2
 by_cases c1:i<p
 ·rw[if_pos c1,List.getElem?_take,if_pos c1] at h1
  rw[if_pos c1,List.getElem?_take,if_pos c1] at h2
  exact h.2 i t y h1 h2
 ·rw[if_neg c1,List.getElem?_append] at h1
  rw[if_neg c1,List.getElem?_append] at h2
  by_cases c2:i-p<m.length
  ·rw[if_pos c2] at h1
   rw[if_pos (by omega)] at h2
   exact h'.2 _ t y h1 h2
  ·rw[if_neg c2,List.getElem?_drop] at h1
   rw[if_neg (by omega),List.getElem?_drop,hl'] at h2
   exact h.2 _ t y h1 h2
theorem H6{α:Type}(l m:List α)(p q:Nat)(h:p+m.length≤q)(hq:q≤l.length):
 (l.take p++m++l.drop (p+m.length)).take q=(l.take q).take p++m++(l.take q).drop (p+m.length):=by
 rw[List.take_append,List.take_of_length_le (by simp;omega),List.take_take,show min p q=p by omega,List.drop_take]
 simp only[List.length_append,List.length_take]
 rw[show q-(min p l.length+m.length)=q-(p+m.length) by omega]
theorem H7{α:Type}(l m:List α)(o p q:Nat)(h:o+p≤l.length):(l.take (o+p)++m++l.drop (o+p+q)).drop o=(l.drop o).take p++m++(l.drop o).drop (p+q):=by
 have h1:(l.take (o+p)).drop o=(l.drop o).take p:=by rw[List.drop_take];congr 1;omega
 have h2:l.drop (o+p+q)=(l.drop o).drop (p+q):=by rw[List.drop_drop];congr 1;omega
 rw[List.append_assoc,List.drop_append_of_le_length (by rw[List.length_take];omega),h1,h2,List.append_assoc]
theorem Km{α:Type}(l:List α)(off n i:Nat)(v:α)(hi:i<n)(hl:off+n≤l.length):((l.take (off+i)++[v]++l.drop (off+i+1)).drop off).take n=((l.drop off).take n).set i v:=by
 have e:l.take (off+i)++[v]++l.drop (off+i+1)=l.set (off+i) v:=by
  rw[List.set_eq_take_append_cons_drop,if_pos (by omega)];simp
 rw[e]
 apply List.ext_getElem?
 intro j
 rw[List.getElem?_take,List.getElem?_drop,List.getElem?_set,List.getElem?_set,List.getElem?_take,List.getElem?_drop,List.length_take,List.length_drop]
 by_cases h1:i=j
 ·subst h1
  rw[if_pos hi,if_pos rfl,if_pos (by omega),if_pos rfl,if_pos (by omega)]
 ·rw[if_neg (show ¬(off+i=off+j) by omega),if_neg h1]
theorem Rel.fillHole(h:Rel w0 F Xc ρ0 ρ st a w){K i:Nat}{e e2:TypeId}{m:Nat}{l:List (List T)}{vs:Array Value}{ho v:Value}{ad:Addr}(hob:st.objs[K]?=some (.rr (some i) e e2 m l))(hK:ρ K=some (.tuple vs))
 (hh:vs[0]?=some ho) (hi:vs[i+1]?=some v) (h1:v.oneCell'=true) (hil:i<l.length) (hba:zJ ho=some ad) {t:TypeId} (hn:pA P t=some 1) {vv:Value} (hvc:vv.cells.toList=[v]):
 ∃w',(storeVar t (ad.add i) vv).run P w=.ok () w'∧Rel w0 F Xc ρ0 ρ { st with objs:=st.objs.set K (.rr none e e2 m l) } a w':=by
 obtain⟨hv',e1,h0,ho',hs,xs,g1,g2,g3,g4,g5,g6⟩:=h.objs K _ hob
 rw[hK] at e1
 cases e1
 cases g1
 have:ho'=ho:=by simpa using hh
 subst this
 have hsi:hs[i]?=some v:=by simpa using hi
 obtain⟨hesm,g2⟩:=g2.row hba
 have hrow:=g2
 have hxl:=g2.1
 rw[Nat.mul_one] at hxl
 rcases g2.2 with⟨_,hz⟩ | ⟨g,off,cap,cur,z1,z2,z3,z4,z5,z6,z7⟩
 ·omega
 have had:ad=⟨g,off,none⟩:=by rw[z1] at hba;simpa[zJ] using hba.symm
 subst had
 have hadd:(⟨g,off,none⟩:Addr).add i=⟨g,off+i,none⟩:=by unfold Addr.add;split <;> simp_all
 have hrun:=r9 (P:=P) (t:=t) (v:=vv) (j:=off+i) hn (by rw[←Array.length_toList,hvc];rfl) z3 (by omega) (fun x hx=>by rw[hvc] at hx;simp at hx;rw[hx];exact h1)
 rw[hvc] at hrun
 refine⟨_,by rw[hadd];exact hrun,?_⟩
 have hlt:K<st.objs.length:=(List.getElem?_eq_some_iff.1 hob).1
 have hblk:blk ho'=some g:=by rw[z1];simp[blk];omega
 have hHas:Has st.objs ρ K g:=⟨_,_,hob,rfl,hK,.inr ⟨_,rfl,ho',by simp,hblk⟩⟩
 have hstp:=jK w g (cur.toList.take (off+i)++[v]++cur.toList.drop (off+i+1)).toArray
 refine h.change _ ρ (·=K) hstp (fun jj hj=>⟨by rw[List.getElem?_set_ne (fun e=>hj e.symm)],rfl⟩) (.refl _) (fun b hb=>⟨K,rfl,hb▸hHas⟩)
  (fun jj b hj hb=>?_) (fun jj j' b hj hj' _ _=>hj.trans hj'.symm) (fun hX jj o' hj ho2=>?_) (fun _ _=>rfl)
 ·subst hj
  obtain⟨o',v',_,_,q3,q4⟩:=hb
  exact .inl ⟨_,rfl,_,v',hob,rfl,q3,q4⟩
 ·subst hj
  rw[List.getElem?_set_self hlt] at ho2
  cases ho2
  have hcl:cur.toList.length=cur.size:=Array.length_toList
  have hoff:∀(j:Nat) y,(ho'::hs)[j+1]?=some y→blk y≠some g:=fun j y hj hb=>by
   have:=g6 0 (j+1) ho' y g rfl hj hblk hb
   omega
  refine⟨_,hK,h0,ho',hs,xs.set i v,rfl,.inl ⟨hesm,by rw[List.length_set];exact hrow.1,.inr ⟨g,off,cap,_,z1,z2,setRow_heap w g cur _ _ _ z3,z4,z5,?_,?_⟩⟩,g3,fun j y z q1 q2=>?_,fun j mm y q1 q2=>?_,g6⟩
  ·rw[List.size_toArray,List.length_append,List.length_append,List.length_take,List.length_drop,List.length_singleton];omega
  ·rw[Nat.mul_one,←z7,Nat.mul_one]
   exact Km _ _ _ _ _ hil (by omega)
  ·rw[List.getElem?_set] at q1
   by_cases hij:i=j
   ·subst hij
    rw[if_pos rfl] at q1
    split at q1
    ·cases q1
     rw[hsi] at q2
     cases q2
     exact⟨h1,fun _=>rfl⟩
    ·cases q1
   ·rw[if_neg hij] at q1
    obtain⟨f1,f2⟩:=g4 j y z q1 q2
    exact⟨f1,fun _=>f2 (fun e=>hij (by cases e;rfl))⟩
  ·obtain⟨f1,ys,f2,f3⟩:=g5 j mm y q1 q2
   exact⟨f1,ys,f2.step hstp (fun b hb hy=>hoff j y (by simpa using q2) (by rw[hb,hy])),f3.step hstp (fun b hb=>.inl ⟨_,hb▸hHas⟩) hX⟩
theorem ZG{t:TypeId}{d v:D}{vd vv:Value}{k:St→Option R}(h:Rel w0 F Xc ρ0 ρ st a w)(hd:RdD w (XB st.objs ρ Xc) ρ d vd)(hv:RdD w (XB st.objs ρ Xc) ρ v vv)
 (hk:rM P st t d v k=some r):∃st' w',(Instr.storeAt t vd vv).run P w=.ok () w'∧Rel w0 F Xc ρ0 ρ st' a w'∧k st'=some r:=by
 unfold rM at hk
 split at hk
 case h_2=>cases hk
 rename_i n cs hn hcs
 split at hk
 case isFalse=>cases hk
 rename_i hc
 obtain⟨hlen,hok⟩:=hc
 have hl:=pK hv hcs
 have h1:=hl.one' hok
 have hsz:vv.cells.size=n:=by have:=hl.1;rw[Array.length_toList] at this;omega
 obtain⟨c,rfl,hc,hk9⟩:=jJ hd hk
 clear hk
 have hk:=hk9
 clear hk9
 cases c with
 | box key j=>
  dsimp only at hk
  split at hk
  case h_2=>cases hk
  rename_i l hob
  split at hk
  case isFalse=>cases hk
  rename_i hle
  obtain⟨hle,htl⟩:=hle
  rcases hc with hc | ⟨⟨hv',e1,ba,e2,e3⟩,_⟩
  ·cases hc
  ·obtain⟨hv'',f1,g,ys,ty,f2,f3,f0,f4⟩:=h.objs key _ hob
   rw[e1] at f1
   cases f1
   rw[f2] at e2
   simp only[zJ,Option.some.injEq] at e2
   subst e2
   subst e3
   have hadd:(⟨g,0,none⟩:Addr).add j=⟨g,j,none⟩:=by unfold Addr.add;split <;> simp_all
   have hyl:=f4.1
   rw[Array.length_toList] at hyl
   have hrun:=r9 (P:=P) (t:=t) hn hsz f3 (j:=j) (by omega) h1
   refine⟨_,_,?_,h.setBox (l':=l.take j++cs++l.drop (j+n)) (zs:=(ys.toList.take j++vv.cells.toList++ys.toList.drop (j+n)).toArray) hob e1 f2 f3 ?_ ?_,hk⟩
   ·simp only[Instr.storeAt,Instr.sureAddr,Sem.run_bind,Sem.run_pure,Result.andThen_ok,hadd]
    exact hrun
   ·rcases htl with hj | hj
    ·intro u hu
     cases j with
     | zero=>omega
     | succ j=>
      cases l with
      | nil=>simp at hle
      | cons c0 l0=>
       have h0:=vV.1 hu
       simp only[List.take_succ_cons,List.cons_append,List.getElem?_cons_zero] at h0
       obtain⟨q1,y,q2,q3⟩:=f0 u (vV.2 (by simpa using h0))
       refine⟨q1,y,?_,q3⟩
       cases hz:ys.toList with
       | nil=>rw[←Array.getElem?_toList,hz] at q2;cases q2
       | cons z zs=>
        rw[←Array.getElem?_toList,hz] at q2
        simp only[List.take_succ_cons,List.cons_append,List.getElem?_toArray,List.getElem?_cons_zero] at q2 ⊢
        exact q2
    ·exact .none hj
   ·exact((f4.take j).append hl).append (f4.drop (j+n))
 | elt key m i j=>
  dsimp only at hk
  split at hk
  case h_2=>cases hk
  rename_i q hfq
  obtain⟨objs',cs'⟩:=q
  obtain⟨h,hl⟩:=EZ h hl hfq
  have hlen:cs'.length=n:=by have:=hl.1;rw[Array.length_toList] at this;omega
  dsimp only at hk
  split at hk
  case h_2=>cases hk
  rename_i e m' es hob
  have hk9:=pM hl hk
  clear hk
  obtain⟨ts,hk,t1,t2,t3⟩:=hk9
  split at hk
  case isFalse=>cases hk
  rename_i hle
  obtain⟨rfl,hle⟩:=hle
  obtain⟨x,hx,hk⟩:=aC hk
  have hx:=vX hx
  rcases hc with hc | ⟨⟨hv',e1,ba,e2,e3⟩,_⟩
  ·cases hc
  ·obtain⟨hv'',f1,f2⟩:=h.objs key _ hob
   rw[e1] at f1
   cases f1
   have f2':=f2
   obtain⟨h0,hu,⟨xs,hown,hr⟩,hf⟩:=f2'
   have hxa:∀t∈x.cells,∀l,t≠.agg l:=fun t ht=>hr.noagg t (by
    unfold flat
    exact List.mem_flatMap.2 ⟨x,List.mem_of_getElem? hx,ht⟩)
   obtain⟨u1,u2⟩:=Bw hu hx (ts:=ts) (j:=j) (by omega) t3 hxa
   rcases hown.2 with⟨z1 | ⟨az,z1⟩,z2⟩ | ⟨g,off,cap,cur,z1,z2,z3,z4,z5,z6,z7⟩
   ·rw[z1] at e2;simp[zJ] at e2
   ·have:es=[]:=List.eq_nil_of_length_eq_zero z2
    subst this
    simp at hx
   ·rw[z1] at e2
    simp only[zJ,Option.some.injEq] at e2
    subst e2
    subst e3
    have hil:i<es.length:=(List.getElem?_eq_some_iff.1 hx).1
    have hmul:(i+1)*m≤es.length*m:=Nat.mul_le_mul_right _ hil
    rw[Nat.add_mul] at hmul
    have hcapm:es.length*m≤cap*m:=Nat.mul_le_mul_right _ z4
    have hadd:(⟨g,off,none⟩:Addr).add (i*m+j)=⟨g,off+(i*m+j),none⟩:=by unfold Addr.add;split <;> simp_all
    have hrun:=r9 (P:=P) (t:=t) hn hsz z3 (j:=off+(i*m+j)) (by omega) h1
    have hflt:(flat es).length=es.length*m:=hu.length
    have hcl:off+cap*m≤cur.toList.length:=by rw[Array.length_toList];exact z6
    have hdl:(cur.toList.drop off).length=cur.toList.length-off:=List.length_drop
    have hxl:xs.length=es.length*m:=hown.1
    have hvl:vv.cells.toList.length=n:=by rw[Array.length_toList];exact hsz
    refine⟨_,w.setRow g (cur.toList.take (off+(i*m+j))++vv.cells.toList++cur.toList.drop (off+(i*m+j)+n)).toArray,?_,?_,hk⟩
    ·simp only[Instr.storeAt,Instr.sureAddr,Sem.run_bind,Sem.run_pure,Result.andThen_ok,hadd]
     exact hrun
    ·have hlt:key<objs'.length:=(List.getElem?_eq_some_iff.1 hob).1
     have hblk:blk hv'=some g:=by rw[z1];simp[blk];omega
     have hHas:Has objs' ρ key g:=⟨_,hv',hob,rfl,e1,.inl hblk⟩
     refine h.change _ ρ (·=key) (jK w g _) (fun jj hj=>⟨by rw[List.getElem?_set_ne (fun e=>hj e.symm)],rfl⟩) (.refl _) (fun b hb=>⟨key,rfl,hb▸hHas⟩)
      (fun jj b hj hb=>?_) (fun jj j' b hj hj' _ _=>hj.trans hj'.symm) (fun hX jj o' hj ho'=>?_) (fun _ _=>rfl)
     ·subst hj
      obtain⟨o',v,_,_,q3,q4⟩:=hb
      rw[e1] at q3
      cases q3
      have q5:=q4.one (by rw[z1];rfl)
      rw[hblk] at q5
      cases q5
      exact .inl ⟨_,rfl,hHas⟩
     ·subst hj
      rw[List.getElem?_set_self hlt] at ho'
      cases ho'
      refine⟨hv',e1,h0,u1,⟨xs.take (i*m+j)++vv.cells.toList++xs.drop (i*m+j+n),⟨?_,.inr ⟨g,off,cap,_,by rw[List.length_set];exact z1,z2,setRow_heap w g cur _ e (0,0) z3,by rw[List.length_set];exact z4,z5,?_,?_⟩⟩,?_⟩,fun hc=>by cases hc⟩
      ·rw[qG _ _ _ _ (by omega) hvl,List.length_set];exact hown.1
      ·rw[List.size_toArray,qG _ _ _ _ (by omega) hvl,Array.length_toList];exact z6
      ·have:=H6 (cur.toList.drop off) vv.cells.toList (i*m+j) (es.length*m) (by omega) (by omega)
       rw[hvl] at this
       rw[List.length_set,H7 _ _ _ _ _ (by omega),this,z7]
      ·rw[u2]
       have hr':RdT (w.setRow g (cur.toList.take (off+(i*m+j))++vv.cells.toList++cur.toList.drop (off+(i*m+j)+n)).toArray) (XB (objs'.set jj (O.row false e m (es.set i (T.upd m x j ts)))) ρ Xc) (flat es) xs:=
        hr.step (jK w g _) (fun b hb=>.inl ⟨_,hb▸hHas⟩) hX
       have ht':=t2.step (jK w g (cur.toList.take (off+(i*m+j))++vv.cells.toList++cur.toList.drop (off+(i*m+j)+n)).toArray) (fun b hb=>.inl ⟨_,hb▸hHas⟩) hX
       have htl:ts.length=n:=by omega
       rw[htl]
       have:=hr'.splice ht' (p:=i*m+j) (by omega)
       rw[htl] at this
       exact this
 | elr key i=>
  dsimp only at hk
  split at hk
  case h_2=>cases hk
  rename_i K k3 i3 hK
  split at hk
  case h_2=>cases hk
  rename_i hi e e2 m l hob
  split at hk
  case isFalse=>cases hk
  rename_i hkk
  obtain⟨_,q1,hk1⟩:=aC hk
  obtain⟨_,q2,hk2⟩:=aC hk1
  obtain⟨x,q3,hk3⟩:=aC hk2
  have q1:=E0 q1
  have q2:=E0 q2
  have q3:=vX q3
  subst q2
  subst q1
  subst hkk
  rcases hc with hc | ⟨⟨vs,hv',e1,e2',ba,e3,e4⟩,_⟩
  ·cases hc
  ·obtain⟨hole,_,_,_,_,vs',f1,f2,f3,f4⟩:=uJ h hK e1
   rw[hob] at f1
   cases f1
   have hvv:∀y,vv.cells.toList[0]?=some y→RdC1 w (XB st.objs ρ Xc) ρ (.inn k3 hi) y:=fun y=>hl.2 0 (.inn k3 hi) y rfl
   have hcl:vv.cells.toList.length=1:=by have:=hl.1;simpa using this
   have hn1:n=1:=by rw[←hlen];rfl
   subst hn1
   have hvc:∃u,vv.cells.toList=[u]∧u.oneCell'=true∧vs'[hi+1]?=some u:=by
    have hvx:∃u,vv.cells.toList=[u]:=by
     match hh:vv.cells.toList,hcl with
     | [u],_=>exact⟨u,rfl⟩
    obtain⟨u,hu⟩:=hvx
    have h2:=hvv u (by rw[hu];rfl)
    rcases h2 with h2 | ⟨⟨vs2,p1,p2⟩,p3⟩
    ·cases h2
    ·rw[f2] at p1
     cases p1
     exact⟨u,hu,p3,p2⟩
   obtain⟨u,hu1,hu2,hu3⟩:=hvc
   obtain⟨w',r1,r2⟩:=Rel.fillHole (P:=P) (t:=t) h hob f2 (f3.trans e2') hu3 hu2 (List.getElem?_eq_some_iff.1 q3).1 e3 hn hu1
   exact⟨_,w',by rw[e4];simp only[Instr.storeAt,Instr.sureAddr,Sem.run_bind,Sem.run_pure,Result.andThen_ok];exact r1,r2,hk3⟩
 | rk _=>cases hk
 | inn _ _=>cases hk
 | t x=>cases hk
 | row k'=>cases hk
 | pe m x j=>cases hk
 | fn f' cs'=>cases hk
 | self _=>cases hk
 | cut _ _ _ _ _=>cases hk
 | amb=>cases hk
 | top=>cases hk
end
section
variable {P:Program} {w:World}
theorem CM(b:Nat)(e:TypeId)(fr:Nat×Nat):∀(vs:List Value) (o:Nat) (w:World) (cur:Array Value),w.heap[b]?=some (.cells cur e fr)→o+vs.length≤cur.size →
 (w.setCells b o vs).heap[b]?=some (.cells (cur.toList.take o++vs++cur.toList.drop (o+vs.length)).toArray e fr)
 | [],o,w,cur,h,hl=>by simp[World.setCells,h]
 | v::vs,o,w,cur,h,hl=>by
  simp only[List.length_cons] at hl
  have h1:(w.setCell ⟨b,o,none⟩ v).heap[b]?=some (.cells (cur.setIfInBounds o v) e fr):=by simp[World.setCell,Array.getElem?_modify,h]
  have:=CM b e fr vs (o+1) (w.setCell ⟨b,o,none⟩ v) (cur.setIfInBounds o v) h1 (by simp;omega)
  simp only[World.setCells]
  rw[this]
  congr 3
  have hs:(cur.setIfInBounds o v).toList=cur.toList.take o++v::cur.toList.drop (o+1):=by
   rw[Array.toList_setIfInBounds,List.set_eq_take_append_cons_drop,if_pos (by rw[Array.length_toList];omega)]
  have hlo:(cur.toList.take o).length=o:=by rw[List.length_take,Array.length_toList];omega
  rw[hs]
  have e1:(cur.toList.take o++v::cur.toList.drop (o+1)).take (o+1)=cur.toList.take o++[v]:=by
   rw[List.take_append,hlo,List.take_of_length_le (by omega),Nat.add_sub_cancel_left];rfl
  have e2:(cur.toList.take o++v::cur.toList.drop (o+1)).drop (o+1+vs.length)=cur.toList.drop (o+(vs.length+1)):=by
   rw[List.drop_append,hlo,List.drop_of_length_le (by omega),List.nil_append,show o+1+vs.length-o=vs.length+1 by omega,List.drop_succ_cons,List.drop_drop]
   congr 1;omega
  rw[e1,e2]
  simp
theorem zN(b:Nat):∀(vs:List Value) (o:Nat) (w:World),w.grownBy (w.setCells b o vs) (some b)
 | [],o,w=>World.grownBy.refl w _
 | v::vs,o,w=>by
  have h:=zN b vs (o+1) (w.setCell ⟨b,o,none⟩ v)
  exact⟨h.os,h.tape,h.output,by have:=h.size;have e:(w.setCell ⟨b,o,none⟩ v).heap.size=w.heap.size:=(by simp[World.setCell]);rw[e] at this;exact this,fun k hk hne=>by
   simp only[World.setCells]
   rw[h.block k (by simpa[World.setCell] using hk) hne]
   exact Below.heap_setCell w ⟨b,o,none⟩ v k (fun e=>hne (by rw[e]))⟩
theorem KN{t tx ty e:TypeId}{i:TypeInfo}(ht:P.underlying t=some (.slice e))(hi:P.info? e=some i)(base:Option Addr){x:Value}(hs:Src P i.size tx x 0 [] w):
 (Builtin.append_ #[t,tx] ty #[.slice base 0 0,x]).run P w=.ok (.slice base 0 0) w:=by
 rcases hs.kind with⟨e',hk⟩ | hk <;> cases base <;> simp[Builtin.append_,run_underlying ht,run_underlying hk,sizeOf,typeInfo,hi,hs.len,hs.cells,storeCells]
theorem nW{t tx ty e:TypeId}{i:TypeInfo}{z:Value}(ht:P.underlying t=some (.slice e))(hi:P.info? e=some i)(hz:i.zero=some z)(hzs:z.cells.size=i.size)(hsz:0<i.size)
 {v:Value} {m:Nat} {xs:List Value} (hown:rowAt w e i.size v m xs) {x:Value} {q:Nat} {news:List Value} (hs:Src P i.size tx x q news w) (h63:m+q≤maxLen) (hb:(m+q)*i.bytes≤140737488355328):
 ∃v' w',(Builtin.append_ #[t,tx] ty #[v,x]).run P w=.ok v' w'∧rowAt w' e i.size v' (m+q) (xs++news)∧w.grownBy w' (blk v)∧(blk v'=blk v∨blk v'=some w.heap.size):=by
 have hnl:=hs.newsLen
 have hxl:=hown.1
 have grow:∀(base:Option Addr) (cap:Nat),v=.slice base m cap→cap<m+q→(Builtin.firstCells i.size m (.slice base m cap)).run P w.drew=.ok xs.toArray w.drew →
  ∃v' w',(Builtin.append_ #[t,tx] ty #[v,x]).run P w=.ok v' w'∧rowAt w' e i.size v' (m+q) (xs++news)∧w.grownBy w' (blk v)∧(blk v'=blk v∨blk v'=some w.heap.size):=fun base cap hv hg hold=>by
  subst hv
  have hge:=grownCap_ge w (m+q) cap e
  have hcm:grownCap w (m+q) cap e≤maxLen:=grownCap_le_maxLen w (m+q) cap e h63
  have hr:=run_append_grow_src (P:=P) w t tx ty e i z ht hi hz base m cap xs hold x q news hs hg (by simp only[maxLen] at h63;omega) (growslice_fits hg hb)
  have hlen:(xs++news).length=(m+q)*i.size:=by rw[List.length_append,hxl,hnl,Nat.add_mul]
  refine⟨_,_,hr,⟨hlen,.inr ⟨w.heap.size,0,_,_,rfl,by omega,heap_alloc_new w.drew _,hge,hcm,?_,?_⟩⟩,⟨rfl,rfl,rfl,by simp,fun k hk _=>heap_alloc_old w.drew _ hk⟩,.inr ?_⟩
  ·simp only[Array.size_append,List.size_toArray,size_zeroCells,hzs,hlen,←Nat.add_mul]
   rw[Nat.zero_add]
   refine Nat.le_of_eq ?_
   congr 1
   omega
  ·simp only[Array.toList_append,List.drop_zero]
   rw[←hlen]
   exact List.take_left
  ·simp only[blk]
   rw[if_neg (by omega)]
 rcases hown.2 with⟨hnil,rfl⟩ | ⟨g,off,cap,cur,rfl,hc0,hg,hmc,hcm,hsz',htake⟩
 ·have hxs:xs=[]:=List.eq_nil_of_length_eq_zero (by rw[hxl,Nat.zero_mul])
  subst hxs
  obtain⟨base,rfl⟩:∃base,v=.slice base 0 0:=by
   rcases hnil with h | ⟨a,h⟩
   ·exact⟨none,h⟩
   ·exact⟨some a,h⟩
  by_cases hq:q=0
  ·subst hq
   have hn:news=[]:=List.eq_nil_of_length_eq_zero (by simpa using hnl)
   subst hn
   exact⟨_,w,KN (ty:=ty) ht hi base hs,by simpa using hown,World.grownBy.refl w _,.inl rfl⟩
  ·refine grow base 0 rfl (by omega) ?_
   cases base with
   | none=>exact run_firstCells_none w.drew i.size 0 0 0
   | some a=>exact run_firstCells_some w.drew i.size 0 a 0 0 [] (by simp) (fun j u h=>by simp at h)
 ·by_cases hroom:m+q≤cap
  ·have hmul:(m+q)*i.size≤cap*i.size:=Nat.mul_le_mul_right _ hroom
   rw[Nat.add_mul] at hmul
   have hcl:cur.toList.length=cur.size:=Array.length_toList
   have hr:=run_append_room_src (P:=P) w t tx ty e i ht hi g off m cap x q news hs hroom (fun j hj=>by
    simp only[World.cell?,hg]
    have:off+m*i.size+j<cur.size:=by omega
    simp[Array.getElem?_eq_getElem this]) (fun j hj=>by simp[World.frozen?,hg])
   refine⟨_,_,hr,⟨by rw[List.length_append,hxl,hnl,Nat.add_mul],.inr ⟨g,off,cap,_,rfl,hc0,CM g e (0,0) news (off+m*i.size) w cur hg (by omega),hroom,hcm,?_,?_⟩⟩,?_,.inl rfl⟩
   ·simp only[List.size_toArray,List.length_append,List.length_take,List.length_drop,hcl]
    omega
   ·have hx:(cur.toList.drop off).take (m*i.size)=xs:=htake
    simp only[]
    rw[List.append_assoc,List.drop_append_of_le_length (by rw[List.length_take,hcl];omega),List.drop_take,show off+m*i.size-off=m*i.size by omega,hx,←List.append_assoc]
    have:(xs++news).length=(m+q)*i.size:=by rw[List.length_append,hxl,hnl,Nat.add_mul]
    rw[←this,List.take_left]
   ·have:=zN g news (off+m*i.size) w
    have hb':blk (.slice (some ⟨g,off,none⟩) m cap)=some g:=by simp only[blk];rw[if_neg (by omega)]
    rw[hb']
    exact this
  ·exact grow _ cap rfl (by omega) (run_firstCells_some w.drew i.size m ⟨g,off,none⟩ m cap xs hxl (fun j u hj=>by have:=hown.cells rfl j u hj;simpa using this))
end
@[irreducible] def room{α:Type}(l m:List α)(b:Nat):Option (List α):=if (l.length+m.length)≤maxLen∧(l.length+m.length)*b≤140737488355328 then some (l++m) else none
theorem B0{α:Type}{l m q:List α}{b:Nat}(h:room l m b=some q):q=l++m∧l.length+m.length≤maxLen∧(l.length+m.length)*b≤140737488355328:=by
 unfold room at h
 split at h
 ·rename_i hc;cases h;exact⟨rfl,hc⟩
 ·cases h
@[irreducible] def fR(s:ByteArray):List T:=s.data.toList.map fun b=>.v (.int .u8 b.toNat)
section
variable {R:Type} (P:Program)
def gC(st:St)(n:Nat)(c:C)(k:List T→Option R):Option R:=match c with
 | .t x=>ob (x.rw? n) k
 | .row key=>match st.objs[key]? with
  | some (.row _ _ n' es)=>if n'=n then k es else none
  | _=>none
 | .cut key m lo len _=>match st.objs[key]? with
  | some (.row _ _ n' es)=>if n'=n∧m=n then k (iR es lo len) else none
  | _=>none
 | _=>none
def xF(st:St)(e:TypeId)(n:Nat)(c:C)(k:St→List T→Option R):Option R:=match c with
 | .t (.v (.slice none 0 0))=>k st []
 | .row key=>match st.objs[key]? with
  | some (.row false e' n' es)=>if e'=e∧n'=n then k { st with objs:=st.objs.set key .dead } es else none
  | _=>none
 | .cut key m lo len _=>match st.objs[key]? with
  | some (.row false e' n' es)=>if e'=e∧n'=n∧m=n then k { st with objs:=st.objs.set key .dead } (iR es lo len) else none
  | _=>none
 | _=>none
def kH(st:St)(dst:Option Nat)(t u:TypeId)(s x:D)(k:St→D→Option R):Option R:=
 match P.underlying t with
 | some (.slice e)=>match P.info? e with
  | some i=>match i.zero with
   | some z=>if z.cells.size=i.size∧(0<i.size∧i.size<1000000000) then
    mE s fun cs=>
     if u=t then mE x fun cx=>gC st i.size cx fun m=>xF st e i.size cs fun st l=>ob (room l m i.bytes) fun q=>
      f6 st dst (.row false e i.size q) fun st key=>k st (.s (.c (.row key)))
     else match P.underlying u,z,i.size,i.bytes with
      | some .string,.int .u8 0,1,1=>EX x fun b=>xF st e 1 cs fun st l=>ob (room l (fR b) 1) fun q=>
       f6 st dst (.row false e 1 q) fun st key=>k st (.s (.c (.row key)))
      | _,_,_,_=>none
    else none
   | none=>none
  | none=>none
 | _=>none
def H8(st:St)(dst:Option Nat)(t u:TypeId)(key i:Nat)(x:D)(k:St→D→Option R):Option R:=
 match P.underlying t with
 | some (.slice e)=>match P.info? e with
  | some inf=>match inf.zero with
   | some z=>if z.cells.size=inf.size∧(0<inf.size∧inf.size<1000000000)∧u=t then
    mE x fun cx=>gC st inf.size cx fun m=>match st.objs[key]? with
     | some (.rr none e1 e2 n l)=>if e2=e∧n=inf.size then ob (idxN l i) fun old=>ob (room (SH e1 old) m inf.bytes) fun q=>
      f6 st dst (.rr (some i) e1 e2 n (l.set i (NE e1 old q))) fun st K=>k { st with objs:=st.objs.set key (.fwd K) } (.s (.c (.inn K i)))
      else none
     | _=>none
    else none
   | none=>none
  | none=>none
 | _=>none
def lK(st:St)(dst:Option Nat)(t u:TypeId)(s x:D)(k:St→D→Option R):Option R:=match s with
 | .s (.c (.inn key i))=>H8 P st dst t u key i x k
 | _=>kH P st dst t u s x k
end
section
variable {R:Type} {P:Program} {w0 w w':World} {F Xc:Nat→Prop} {ρ0:Base} {ρ:fN} {st:St} {a:Act} {r:R}
theorem B1{n:Nat}{c:C}{y:Value}{k:List T→Option R}(h:Rel w0 F Xc ρ0 ρ st a w)(hc:RdC1 w (XB st.objs ρ Xc) ρ c y)(hk:gC st n c k=some r):
 ∃l,k l=some r∧Uni n l∧∃ys,RdT w (XB st.objs ρ Xc) (flat l) ys ∧
  ((∃q,y=.slice none 0 q∧l=[])∨∃ad q,y=.slice (some ad) l.length q∧l.length≤q∧∀(j:Nat) u,ys[j]?=some u→w.cell? (ad.add j)=some u):=by
 unfold gC at hk
 split at hk
 ·rename_i x
  obtain⟨l,hl,hk2⟩:=aC hk
  clear hk
  rcases hc with hc | ⟨hc,_⟩
  ·cases hc
  ·obtain⟨hnm,hl⟩:=T.rw_some hl
   unfold T.sl? at hl
   split at hl
   ·rw[if_pos hnm] at hl
    cases hl
    have:=Rd.inv_v hc
    subst this
    exact⟨[],hk2,.nil n,[],⟨rfl,fun i t y h1 _=>by simp[flat] at h1⟩,.inl ⟨0,rfl,rfl⟩⟩
   ·split at hl
    ·rename_i hkk
     cases hl
     subst hkk
     cases hc with
     | mp _ _ _ _ _ hbig=>omega
     | nil=>exact⟨[],hk2,.nil _,[],⟨rfl,fun i t y h1 _=>by simp[flat] at h1⟩,.inl ⟨0,rfl,rfl⟩⟩
     | sl _ _ ad q ys _ hq hm hu hy hcell hr=>
      exact⟨_,hk2,hu,ys,⟨hy,fun i t y h1 h2=>⟨hr i t y h1 h2,(hcell i y h2).2.2⟩⟩,.inr ⟨ad,q,rfl,hq,fun j u hj=>(hcell j u hj).1⟩⟩
    ·cases hl
   ·cases hl
 ·rename_i key
  split at hk
  ·rename_i fz e n' es hob
   split at hk
   ·rename_i hn
    subst hn
    rcases hc with hc | ⟨hc,_⟩
    ·cases hc
    ·obtain⟨hv,e1,e2⟩:=h.objs key _ hob
     simp only[RdC] at hc
     rw[hc] at e1
     cases e1
     obtain⟨h0,hu,_,_⟩:=id e2
     rcases fZ e2 with⟨rfl,rfl⟩ | ⟨a0,cap,rfl,h1,h2,xs,hr,hcell⟩
     ·exact⟨[],hk,.nil _,[],⟨rfl,fun i t y h1 _=>by simp[flat] at h1⟩,.inl ⟨0,rfl,rfl⟩⟩
     ·exact⟨es,hk,hu,xs,hr,.inr ⟨_,cap,rfl,h1,hcell⟩⟩
   ·cases hk
  ·cases hk
 ·rename_i key m lo len tg
  split at hk
  ·rename_i fz e n' es hob
   split at hk
   ·rename_i hn
    obtain⟨rfl,rfl⟩:=hn
    rcases hc with hc | ⟨⟨hv,q1,q2⟩,_⟩
    ·cases hc
    ·obtain⟨hv',e1,e2⟩:=h.objs key _ hob
     rw[q1] at e1
     cases e1
     obtain⟨_,hu,_,hh⟩:=BY e2 q2
     rcases hh with⟨rfl,h2⟩ | ⟨ad,q,rfl,h1,h2,xs,hr,hcell⟩
     ·exact⟨_,hk,hu,[],by rw[h2];exact⟨rfl,fun i t y h1 _=>by simp[flat] at h1⟩,.inl ⟨0,rfl,h2⟩⟩
     ·exact⟨_,hk,hu,xs,hr,.inr ⟨ad,q,rfl,h1,fun j u hj=>(hcell j u hj).1⟩⟩
   ·cases hk
  ·cases hk
 ·cases hk
theorem CutOf.row{e:TypeId}{n lo len L:Nat}{tg:Bool}{v y:Value}{xs:List Value}(hc:CutOf v n lo len tg y)(hr:rowAt w e n v L xs):rowAt w e n y len ((xs.drop (lo*n)).take (len*n)):=by
 obtain⟨ao,L',c,cc,ao',rfl,rfl,h1,h2,h3,h4,_⟩:=hc
 have hxl:=hr.1
 have hL:L=L':=by
  rcases hr.2 with⟨hn | ⟨a,hn⟩,h0⟩ | ⟨g,off,cap,cur,e1,_⟩
  ·cases hn;exact h0
  ·cases hn;exact h0
  ·cases e1;rfl
 subst hL
 have hmul:(lo+len)*n≤L*n:=Nat.mul_le_mul_right _ h1
 rw[Nat.add_mul] at hmul
 refine⟨by rw[List.length_take,List.length_drop,hxl];omega,?_⟩
 by_cases hcc:cc=0
 ·subst hcc
  have hz:len=0:=by omega
  subst hz
  refine .inl ⟨?_,rfl⟩
  cases ao' with
  | none=>exact .inl rfl
  | some a=>exact .inr ⟨a,rfl⟩
 ·rcases hr.2 with⟨hn,h0⟩ | ⟨g,off,cap,cur,e1,g1,g2,g3,g4,g5,g6⟩
  ·exfalso
   rcases hn with hn | ⟨a,hn⟩ <;> (cases hn;omega)
  ·cases e1
   have h5:=h4 (by omega)
   have hadd:(⟨g,off,none⟩:Addr).add (lo*n)=⟨g,off+lo*n,none⟩:=by unfold Addr.add;split <;> simp_all
   simp only[Option.map_some,hadd] at h5
   subst h5
   have hm2:(lo+cc)*n≤c*n:=Nat.mul_le_mul_right _ h3
   rw[Nat.add_mul] at hm2
   refine .inr ⟨g,off+lo*n,cc,cur,rfl,by omega,g2,h2,by omega,by omega,?_⟩
   rw[←g6,List.drop_take,List.take_take,List.drop_drop,Nat.min_eq_left (by omega)]
theorem CutOf.blk{n lo len:Nat}{tg:Bool}{v y:Value}(hc:CutOf v n lo len tg y){b:Nat}(hb:Eng.blk y=some b):Eng.blk v=some b:=by
 obtain⟨ao,L',c,cc,ao',rfl,rfl,h1,h2,h3,h4,_⟩:=hc
 cases ao' with
 | none=>cases hb
 | some a'=>
  simp only[Eng.blk] at hb
  split at hb
  ·cases hb
  ·have h5:=h4 (by omega)
   cases ao with
   | none=>cases h5
   | some a=>
    simp only[Option.map_some,Option.some.injEq] at h5
    subst h5
    simp only[dH] at hb
    simp only[Eng.blk]
    rw[if_neg (by omega)]
    exact hb
theorem zO{e:TypeId}{n:Nat}{y v:Value}{key:Nat}{es:List T}(h:Rel w0 F Xc ρ0 ρ st a w)(hn:0<n∧n<1000000000)(hob:st.objs[key]?=some (.row false e n es))(hc:ρ key=some v)(hby:∀b,blk y=some b→blk v=some b):
 ∀(w':World) (d:Nat) (l':List T) (v':Value) (xs':List Value),(st.objs.set key .dead)[st.np+d]?=some .fresh→rowAt w' e n v' l'.length xs'→Uni n l'→w.grownBy w' (blk y)→(blk v'=blk y∨blk v'=some w.heap.size) →
  RdT w (XB st.objs ρ Xc) (flat l') xs' →
  ∃ρ',Rel w0 F Xc ρ0 ρ' { st with objs:=(st.objs.set key .dead).set (st.np+d) (.row false e n l') } a w'∧ρ' (st.np+d)=some v'∧Rle ρ ρ':=by
 intro w' d l' v' xs' hf hown hu hg hv' hr
 have hklt:key<st.objs.length:=(List.getElem?_eq_some_iff.1 hob).1
 have hdk:st.np+d≠key:=fun e=>by
  rw[e,List.getElem?_set_self hklt] at hf;cases hf
 have hf0:st.objs[st.np+d]?=some .fresh:=by rw[List.getElem?_set_ne (fun e=>hdk e.symm)] at hf;exact hf
 have hnone:ρ (st.np+d)=none:=h.objs _ _ hf0
 have hdlt:st.np+d<(st.objs.set key O.dead).length:=(List.getElem?_eq_some_iff.1 hf).1
 have hs:Stp (fun b=>blk y=some b) w w':=Stp.grown hg (fun g hg=>hg)
 have hHas:∀b,blk y=some b→Has st.objs ρ key b:=fun b hb=>⟨_,v,hob,rfl,hc,.inl (hby b hb)⟩
 have hρ:Rle ρ (upd ρ (st.np+d) v'):=fun j u hj=>by
  unfold upd
  split
  ·rename_i e;subst e;rw[hnone] at hj;cases hj
  ·exact hj
 have hnew:∀j b,(j=key∨j=st.np+d)→Has ((st.objs.set key .dead).set (st.np+d) (.row false e n l')) (upd ρ (st.np+d) v') j b→j=st.np+d∧blk v'=some b:=by
  intro j b hj hh
  obtain⟨o',u,q1,q2,q3,q4⟩:=hh
  rcases hj with rfl | rfl
  ·rw[List.getElem?_set_ne hdk,List.getElem?_set_self hklt] at q1
   cases q1;cases q2
  ·simp only[upd,if_true,Option.some.injEq] at q3
   subst q3
   exact⟨rfl,q4.one hown.one⟩
 refine⟨upd ρ (st.np+d) v',h.change _ _ (fun j=>j=key∨j=st.np+d) hs (fun j hj=>⟨?_,by unfold upd;rw[if_neg (fun e=>hj (.inr e))]⟩) hρ (fun b hb=>⟨key,.inl rfl,hHas b hb⟩)
  (fun j b hj hh=>?_) (fun j j' b hj hj' hh hh'=>(hnew j b hj hh).1.trans (hnew j' b hj' hh').1.symm) (fun hX j o' hj ho'=>?_) (fun j hj=>by unfold upd;rw[if_neg (by omega)]),by simp[upd],hρ⟩
 ·rw[List.getElem?_set_ne (fun e=>hj (.inr e.symm)),List.getElem?_set_ne (fun e=>hj (.inl e.symm))]
 ·obtain⟨_,hb⟩:=hnew j b hj hh
  rcases hv' with hv' | hv'
  ·exact .inl ⟨key,.inl rfl,hHas b (hv'▸hb)⟩
  ·rw[hv'] at hb;cases hb;exact .inr (Nat.le_refl _)
 ·rcases hj with rfl | rfl
  ·rw[List.getElem?_set_ne hdk,List.getElem?_set_self hklt] at ho'
   cases ho';trivial
  ·rw[List.getElem?_set_self hdlt] at ho'
   cases ho'
   exact⟨v',by simp[upd],hn,hu,⟨xs',hown,hr.step hs (fun b hb=>.inl ⟨key,hHas b hb⟩) hX⟩,fun hc=>by cases hc⟩
theorem XE{e:TypeId}{n:Nat}{c:C}{y:Value}{k:St→List T→Option R}(h:Rel w0 F Xc ρ0 ρ st a w)(hc:RdC1 w (XB st.objs ρ Xc) ρ c y)(hn:0<n∧n<1000000000)(hk:xF st e n c k=some r):
 ∃l st1,k st1 l=some r∧Uni n l∧st1.np=st.np∧st1.env=st.env∧(∃xs,rowAt w e n y l.length xs∧RdT w (XB st.objs ρ Xc) (flat l) xs) ∧
  ∀(w':World) (d:Nat) (l':List T) (v':Value) (xs':List Value),st1.objs[st.np+d]?=some .fresh→rowAt w' e n v' l'.length xs'→Uni n l'→w.grownBy w' (blk y)→(blk v'=blk y∨blk v'=some w.heap.size) →
   RdT w (XB st.objs ρ Xc) (flat l') xs' →
   ∃ρ',Rel w0 F Xc ρ0 ρ' { st1 with objs:=st1.objs.set (st.np+d) (.row false e n l') } a w'∧ρ' (st.np+d)=some v':=by
 unfold xF at hk
 split at hk
 ·rcases hc with hc | ⟨hc,_⟩
  ·cases hc
  ·have:=Rd.inv_v hc
   subst this
   refine⟨[],st,hk,.nil n,rfl,rfl,⟨[],rowAt.nil w e n,⟨rfl,fun i t y h1 _=>by simp[flat] at h1⟩⟩,?_⟩
   intro w' d l' v' xs' hf hown hu hg hv hr
   have hs:Stp (fun _=>False) w w':=Stp.grown hg (fun g hg=>by simp[blk] at hg)
   have hnone:ρ (st.np+d)=none:=h.objs _ _ hf
   refine⟨_,h.new (hv:=v') hf hs (fun b hb=>?_) (fun X' hX=>?_) (Nat.le_add_right _ _) (by simp),by simp[upd]⟩
   ·rcases hv with hv | hv
    ·rw[hv] at hb;simp[blk] at hb
    ·rw[hv] at hb;cases hb;exact Nat.le_refl _
   ·exact⟨hn,hu,⟨xs',hown,hr.step hs (fun _ hb=>False.elim hb) hX⟩,fun hc=>by cases hc⟩
 ·rename_i key
  split at hk
  ·rename_i e' n' es hob
   split at hk
   ·rename_i hcond
    obtain⟨rfl,rfl⟩:=hcond
    rcases hc with hc | ⟨hc,_⟩
    ·cases hc
    ·obtain⟨hv,e1,e2⟩:=h.objs key _ hob
     simp only[RdC] at hc
     rw[hc] at e1
     cases e1
     obtain⟨h0,hu0,⟨xs,hown0,hr0⟩,_⟩:=e2
     refine⟨es,_,hk,hu0,rfl,rfl,⟨xs,hown0,hr0⟩,?_⟩
     intro w' d l' v' xs' h1 h2 h3 h4 h5 h6
     obtain⟨ρ',r1,r2,_⟩:=zO h hn hob hc (fun b hb=>hb) w' d l' v' xs' h1 h2 h3 h4 h5 h6
     exact⟨ρ',r1,r2⟩
   ·cases hk
  ·cases hk
 ·rename_i key m lo len tg
  split at hk
  ·rename_i e' n' es hob
   split at hk
   ·rename_i hcond
    obtain⟨rfl,rfl,rfl⟩:=hcond
    rcases hc with hc | ⟨⟨v,q1,q2⟩,_⟩
    ·cases hc
    ·obtain⟨hv,e1,e2⟩:=h.objs key _ hob
     rw[q1] at e1
     cases e1
     obtain⟨hlen,huc,_,_⟩:=BY e2 q2
     obtain⟨h0,hu0,⟨xs,hown0,hr0⟩,_⟩:=e2
     refine⟨_,_,hk,huc,rfl,rfl,⟨_,by rw[hlen];exact q2.row hown0,?_⟩,?_⟩
     ·have hfl:flat (iR es lo len)=((flat es).drop (lo*m)).take (len*m):=by unfold iR;rw[(hu0.drop lo).flat_take,hu0.flat_drop]
      rw[hfl]
      have hxl:=hr0.1
      refine⟨by simp[hxl],fun i t z h1 h2=>?_⟩
      rw[List.getElem?_take] at h1 h2
      split at h1
      ·rename_i hlt
       rw[if_pos hlt] at h2
       rw[List.getElem?_drop] at h1 h2
       exact hr0.2 _ t z h1 h2
      ·cases h1
     ·intro w' d l' v' xs' h1 h2 h3 h4 h5 h6
      obtain⟨ρ',r1,r2,_⟩:=zO h hn hob q1 (fun b hb=>q2.blk hb) w' d l' v' xs' h1 h2 h3 h4 h5 h6
      exact⟨ρ',r1,r2⟩
   ·cases hk
  ·cases hk
 ·cases hk
theorem RdT.append{X:Nat→Prop}{l m:List T}{ys zs:List Value}(h:RdT w X l ys)(h':RdT w X m zs):RdT w X (l++m) (ys++zs):=by
 refine⟨by simp[h.1,h'.1],fun i c y h1 h2=>?_⟩
 rw[List.getElem?_append] at h1 h2
 have hl:=h.1
 by_cases hi:i<l.length
 ·rw[if_pos hi] at h1
  rw[if_pos (by omega)] at h2
  exact h.2 i c y h1 h2
 ·rw[if_neg hi] at h1
  rw[if_neg (by omega)] at h2
  rw[hl] at h2
  exact h'.2 _ c y h1 h2
theorem U5(s:ByteArray):Uni 1 (fR s):=by
 unfold fR
 intro t ht
 obtain⟨b,_,rfl⟩:=List.mem_map.1 ht
 rfl
theorem DQ(s:ByteArray):(fR s).length=s.size:=by unfold fR;rw[List.length_map,Array.length_toList];rfl
theorem KO{l:List T}(h:∀t∈l,t.cells=[t]):flat l=l:=by
 induction l with
 | nil=>rfl
 | cons t l ih=>rw[gS,h t (by simp),ih (fun t ht=>h t (by simp[ht]))];rfl
theorem ZH{X:Nat→Prop}(s:ByteArray):RdT w X (flat (fR s)) (Lib.strCells s):=by
 rw[KO (fun t ht=>by unfold fR at ht;obtain⟨b,_,rfl⟩:=List.mem_map.1 ht;rfl)]
 refine⟨by rw[Lib.strCells_length,DQ],fun i t y h1 h2=>?_⟩
 unfold fR at h1
 unfold Lib.strCells at h2
 rw[List.getElem?_map] at h1 h2
 cases hb:s.data.toList[i]? with
 | none=>simp[hb] at h1
 | some b=>simp only[hb,Option.map_some,Option.some.injEq] at h1 h2;subst h1;subst h2;exact⟨.v _,rfl⟩
theorem U6{dst:Option Nat}{t u ty:TypeId}{s x:D}{vs vx:Value}{k:St→D→Option R}(h:Rel w0 F Xc ρ0 ρ st a w)(hs:RdD w (XB st.objs ρ Xc) ρ s vs)(hx:RdD w (XB st.objs ρ Xc) ρ x vx)
 (hk:kH P st dst t u s x k=some r):
 ∃y w' ρ' st' d,(Builtin.append_ #[t,u] ty #[vs,vx]).run P w=.ok y w'∧Rel w0 F Xc ρ0 ρ' st' a w'∧RdD w' (XB st'.objs ρ' Xc) ρ' d y∧k st' d=some r:=by
 unfold kH at hk
 split at hk
 case h_2=>cases hk
 rename_i e ht
 split at hk
 case h_2=>cases hk
 rename_i i hi
 split at hk
 case h_2=>cases hk
 rename_i z hz
 split at hk
 case isFalse=>cases hk
 rename_i hcond
 obtain⟨hzs,hsz⟩:=hcond
 obtain⟨cs,rfl,hcs,hk1⟩:=jJ hs hk
 clear hk
 split at hk1
 ·rename_i hu
  subst hu
  obtain⟨cx,rfl,hcx,hk0⟩:=jJ hx hk1
  clear hk1
  obtain⟨m,hk2,hum,ys,hys,hy⟩:=B1 h hcx hk0
  obtain⟨l,st1,hk3,hul,hnp,henv,⟨xs,hown,hrl⟩,hfin⟩:=XE h hcs hsz hk2
  obtain⟨q,hq,hk4⟩:=aC hk3
  obtain⟨rfl,hq1,hq2⟩:=B0 hq
  obtain⟨d,_,hf,hk5⟩:=r8 hk4
  rw[hnp] at hf hk5
  have hl1:=hys.1
  rw[hum.length] at hl1
  have hone:∀u∈ys,u.oneCell'=true:=fun u hu=>by
   obtain⟨i,hi,rfl⟩:=List.getElem_of_mem hu
   have hlt:i<(flat m).length:=by rw[←hys.1];exact hi
   exact(hys.2 i _ _ (List.getElem?_eq_getElem hlt) (List.getElem?_eq_getElem hi)).2
  have hsrc:Src P i.size u vx m.length ys w:=by
   rcases hy with⟨q,rfl,rfl⟩ | ⟨ad,q,rfl,_,hc⟩
   ·have:ys=[]:=List.eq_nil_of_length_eq_zero (by simpa using hl1)
    subst this
    exact .ofNil w ht q
   ·exact .ofSlice w ht ad m.length q ys hl1 hc hone
  obtain⟨v',w',r1,r2,r3,r4⟩:=nW (P:=P) (ty:=ty) ht hi hz hzs hsz.1 hown hsrc hq1 hq2
  obtain⟨ρ',hR,hρ'⟩:=hfin w' d (l++m) v' (xs++ys) hf (by rw[List.length_append];exact r2) (hul.append hum) r3 r4 (by rw[kS];exact hrl.append hys)
  exact⟨v',w',ρ',_,.s (.c (.row (st.np+d))),r1,hR,.one (c:=.row (st.np+d)) hρ' (r2.one),by rw[hnp];exact hk5⟩
 ·rename_i hu
  split at hk1
  ·rename_i hus hi1 hi2
   obtain⟨b,rfl,hk0⟩:=pJ hx hk1
   clear hk1
   obtain⟨l,st1,hk3,hul,hnp,henv,⟨xs,hown,hrl⟩,hfin⟩:=XE h hcs (by omega) hk0
   obtain⟨q,hq,hk4⟩:=aC hk3
   obtain⟨rfl,hq1,hq2⟩:=B0 hq
   obtain⟨d,_,hf,hk5⟩:=r8 hk4
   rw[hnp] at hf hk5
   rw[DQ] at hq1 hq2
   have hsrc:Src P i.size u (.string b) b.size (Lib.strCells b) w:=by rw[hi1];exact .ofString w hus b
   obtain⟨v',w',r1,r2,r3,r4⟩:=nW (P:=P) (ty:=ty) ht hi hz hzs hsz.1 (by rw[hi1];exact hown) hsrc hq1 (by rw[hi2];omega)
   rw[hi1] at r2
   obtain⟨ρ',hR,hρ'⟩:=hfin w' d (l++fR b) v' (xs++Lib.strCells b) hf (by rw[List.length_append,DQ];exact r2) (hul.append (U5 b)) r3 r4 (by rw[kS];exact hrl.append (ZH b))
   exact⟨v',w',ρ',_,.s (.c (.row (st.np+d))),r1,hR,.one (c:=.row (st.np+d)) hρ' (r2.one),by rw[hnp];exact hk5⟩
  ·cases hk1
theorem Bx{dst:Option Nat}{t u ty:TypeId}{key i:Nat}{x:D}{vs vx:Value}{k:St→D→Option R}(h:Rel w0 F Xc ρ0 ρ st a w)(hs:RdD w (XB st.objs ρ Xc) ρ (.s (.c (.inn key i))) vs)(hx:RdD w (XB st.objs ρ Xc) ρ x vx)
 (hk:H8 P st dst t u key i x k=some r):
 ∃y w' ρ' st' d,(Builtin.append_ #[t,u] ty #[vs,vx]).run P w=.ok y w'∧Rel w0 F Xc ρ0 ρ' st' a w'∧RdD w' (XB st'.objs ρ' Xc) ρ' d y∧k st' d=some r:=by
 unfold H8 at hk
 split at hk
 case h_2=>cases hk
 rename_i e ht
 split at hk
 case h_2=>cases hk
 rename_i inf hi
 split at hk
 case h_2=>cases hk
 rename_i z hz
 split at hk
 case isFalse=>cases hk
 rename_i hcond
 obtain⟨hzs,hsz,rfl⟩:=hcond
 obtain⟨cx,rfl,hcx,hk1⟩:=jJ hx hk
 clear hk
 obtain⟨m,hk2,hum,ys,hys,hy⟩:=B1 h hcx hk1
 clear hk1
 split at hk2
 case h_2=>cases hk2
 rename_i e1 e2 n l hob
 split at hk2
 case isFalse=>cases hk2
 rename_i hen
 obtain⟨rfl,rfl⟩:=hen
 obtain⟨old,hold,hk3⟩:=aC hk2
 obtain⟨q,hq,hk4⟩:=aC hk3
 obtain⟨rfl,hq1,hq2⟩:=B0 hq
 obtain⟨d,_,hf,hk5⟩:=r8 hk4
 have hold:=vX hold
 clear hk2 hk3 hk4 hq
 have hl1:=hys.1
 rw[hum.length] at hl1
 have hone:∀u∈ys,u.oneCell'=true:=fun u hu=>by
  obtain⟨i,hi,rfl⟩:=List.getElem_of_mem hu
  have hlt:i<(flat m).length:=by rw[←hys.1];exact hi
  exact(hys.2 i _ _ (List.getElem?_eq_getElem hlt) (List.getElem?_eq_getElem hi)).2
 have hsrc:Src P inf.size u vx m.length ys w:=by
  rcases hy with⟨q,rfl,rfl⟩ | ⟨ad,q,rfl,_,hc⟩
  ·have:ys=[]:=List.eq_nil_of_length_eq_zero (by simpa using hl1)
   subst this
   exact .ofNil w ht q
  ·exact .ofSlice w ht ad m.length q ys hl1 hc hone
 rcases hs with hs | ⟨⟨us,p1,p2⟩,_⟩
 ·cases hs
 obtain⟨hv,f1,h0,ho,hs',xs,rfl,g1,g2,g3,g4,g5⟩:=h.objs key _ hob
 rw[p1] at f1
 cases f1
 have hsi:hs'[i]?=some vs:=by simpa using p2
 have hilt:i<l.length:=(List.getElem?_eq_some_iff.1 hold).1
 obtain⟨hul,xo,hown,hrl⟩:=g4 i old vs hold hsi
 obtain⟨v',w',r1,r2,r3,r4⟩:=nW (P:=P) (ty:=ty) ht hi hz hzs hsz.1 hown hsrc hq1 hq2
 have hklt:key<st.objs.length:=(List.getElem?_eq_some_iff.1 hob).1
 have hdk:st.np+d≠key:=fun e=>by rw[e,hob] at hf;cases hf
 have hnone:ρ (st.np+d)=none:=h.objs _ _ hf
 have hdlt:st.np+d<st.objs.length:=(List.getElem?_eq_some_iff.1 hf).1
 have hstp:Stp (fun b=>blk vs=some b) w w':=Stp.grown r3 (fun g hg=>hg)
 have hHas:∀(j:Nat) y b,(ho::hs')[j]?=some y→blk y=some b→Has st.objs ρ key b:=fun j y b hj hb=>⟨_,_,hob,rfl,p1,.inr ⟨_,rfl,y,by simpa using List.mem_of_getElem? hj,hb⟩⟩
 have hρ:Rle ρ (upd ρ (st.np+d) (.tuple (ho::hs'.set i v').toArray)):=fun j u hj=>by
  unfold upd
  split
  ·rename_i e;subst e;rw[hnone] at hj;cases hj
  ·exact hj
 have hlt:∀(j:Nat) y b,(ho::hs')[j]?=some y→blk y=some b→b<w.heap.size:=fun j y b hj hb=>h.lt (hHas j y b hj hb).mut
 have hvi:(ho::hs')[i+1]?=some vs:=by simpa using hsi
 have hnewH:∀(j:Nat) y,(ho::hs'.set i v')[j]?=some y→(j=i+1∧y=v')∨(j≠i+1∧(ho::hs')[j]?=some y):=fun j y hj=>by
  cases j with
  | zero=>exact .inr ⟨by omega,hj⟩
  | succ j=>
   simp only[List.getElem?_cons_succ,List.getElem?_set] at hj ⊢
   by_cases e:i=j
   ·subst e
    rw[if_pos rfl] at hj
    split at hj
    ·cases hj;exact .inl ⟨rfl,rfl⟩
    ·cases hj
   ·rw[if_neg e] at hj
    exact .inr ⟨by omega,hj⟩
 have hobj:((st.objs.set (st.np+d) (.rr (some i) e1 e2 inf.size (l.set i (NE e1 old (SH e1 old++m))))).set key (.fwd (st.np+d)))[st.np+d]?=some (.rr (some i) e1 e2 inf.size (l.set i (NE e1 old (SH e1 old++m)))):=by
  rw[List.getElem?_set_ne (fun e=>hdk e.symm),List.getElem?_set_self hdlt]
 have hobj2:((st.objs.set (st.np+d) (.rr (some i) e1 e2 inf.size (l.set i (NE e1 old (SH e1 old++m))))).set key (.fwd (st.np+d)))[key]?=some (.fwd (st.np+d)):=by
  rw[List.getElem?_set_self (by rw[List.length_set];exact hklt)]
 have hnew:∀j b,(j=key∨j=st.np+d)→Has ((st.objs.set (st.np+d) (.rr (some i) e1 e2 inf.size (l.set i (NE e1 old (SH e1 old++m))))).set key (.fwd (st.np+d))) (upd ρ (st.np+d) (.tuple (ho::hs'.set i v').toArray)) j b →
  j=st.np+d∧(Has st.objs ρ key b∨w.heap.size≤b):=by
  intro j b hj hh
  obtain⟨o',u',q1,q2,q3,q4⟩:=hh
  rcases hj with rfl | rfl
  ·rw[hobj2] at q1
   cases q1;cases q2
  ·simp only[upd,if_true,Option.some.injEq] at q3
   subst q3
   refine⟨rfl,?_⟩
   rcases q4 with q4 | ⟨ws,hws,y,hy1,hy2⟩
   ·cases q4
   ·cases hws
    obtain⟨j,hj,rfl⟩:=List.getElem_of_mem hy1
    have hj':(ho::hs'.set i v')[j]?=some _:=List.getElem?_eq_getElem hj
    rcases hnewH j _ hj' with⟨_,e⟩ | ⟨_,e⟩
    ·rw[e] at hy2
     rcases r4 with r4 | r4
     ·exact .inl (hHas _ _ b hvi (r4▸hy2))
     ·rw[r4] at hy2;cases hy2;exact .inr (Nat.le_refl _)
    ·exact .inl (hHas _ _ b e hy2)
 have hoff:∀(j:Nat) y b,j≠i+1→(ho::hs')[j]?=some y→blk y=some b→¬blk vs=some b:=fun j y b hne hj hb hv=>hne (g5 j (i+1) y vs b hj hvi hb hv)
 refine⟨v',w',upd ρ (st.np+d) (.tuple (ho::hs'.set i v').toArray),_,.s (.c (.inn (st.np+d) i)),r1,?_,RdD.one (c:=.inn (st.np+d) i) ⟨(ho::hs'.set i v').toArray,by simp[upd],by
  simp only[List.getElem?_toArray,List.getElem?_cons_succ,List.getElem?_set]
  rw[if_pos trivial,if_pos (by omega)]⟩ r2.one,hk5⟩
 refine h.change _ _ (fun j=>j=key∨j=st.np+d) hstp (fun j hj=>⟨?_,by unfold upd;rw[if_neg (fun e=>hj (.inr e))]⟩) hρ (fun b hb=>⟨key,.inl rfl,hHas _ _ b hvi hb⟩)
  (fun j b hj hh=>?_) (fun j j' b hj hj' hh hh'=>(hnew j b hj hh).1.trans (hnew j' b hj' hh').1.symm) (fun hX j o' hj ho'=>?_) (fun j hj=>by unfold upd;rw[if_neg (by omega)])
 ·show ((st.objs.set (st.np+d) _).set key _)[j]?=_
  rw[List.getElem?_set_ne (fun e=>hj (.inl e.symm)),List.getElem?_set_ne (fun e=>hj (.inr e.symm))]
 ·rcases(hnew j b hj hh).2 with hb | hb
  ·exact .inl ⟨key,.inl rfl,hb⟩
  ·exact .inr hb
 ·have hYX:∀b,blk vs=some b→XB st.objs ρ Xc b:=fun b hb=>.inl ⟨key,hHas _ _ b hvi hb⟩
  rcases hj with rfl | rfl
  ·rw[hobj2] at ho'
   cases ho'
   refine⟨.tuple (ho::hs').toArray,?_,(ho::hs').toArray,(ho::hs'.set i v').toArray,rfl,by simp[upd],by simp⟩
   unfold upd;rw[if_neg (fun e=>hdk e.symm)];exact p1
  ·rw[hobj] at ho'
   cases ho'
   refine⟨_,by simp only[upd,if_true],h0,ho,hs'.set i v',xs,rfl,?_,by rw[List.length_set,List.length_set,g2],fun j y z q1 q2=>?_,fun j mm y q1 q2=>?_,fun j1 j2 y z b q1 q2 q3 q4=>?_⟩
   ·exact(g1.set hold _).step hstp (fun b hb=>hoff 0 ho b (by omega) rfl hb)
   ·rw[List.getElem?_set] at q2
    by_cases e:i=j
    ·subst e
     have hj2:∃z0,hs'[i]?=some z0:=⟨_,hsi⟩
     obtain⟨z0,hz0⟩:=hj2
     exact⟨(g3 i y z0 q1 hz0).1,fun hne=>(hne rfl).elim⟩
    ·rw[if_neg e] at q2
     obtain⟨a1,a2⟩:=g3 j y z q1 q2
     exact⟨a1,fun _=>a2 (by simp)⟩
   ·rw[List.getElem?_set] at q1 q2
    by_cases e:i=j
    ·subst e
     rw[if_pos rfl,if_pos hilt] at q1
     rw[if_pos rfl,if_pos (by omega)] at q2
     cases q1
     cases q2
     rw[Gj g1 hold]
     refine⟨hul.append hum,_,by rw[List.length_append];exact r2,?_⟩
     rw[kS]
     exact(hrl.append hys).step hstp hYX hX
    ·rw[if_neg e] at q1 q2
     obtain⟨a1,zs,a2,a3⟩:=g4 j mm y q1 q2
     exact⟨a1,zs,a2.step hstp (fun b hb=>hoff (j+1) y b (by omega) (by simpa using q2) hb),a3.step hstp hYX hX⟩
   ·rcases hnewH j1 y q1 with⟨a1,a2⟩ | ⟨a1,a2⟩ <;> rcases hnewH j2 z q2 with⟨b1,b2⟩ | ⟨b1,b2⟩
    ·omega
    ·subst a2
     rcases r4 with r4 | r4
     ·exact(hoff j2 z b b1 b2 q4 (r4▸q3)).elim
     ·rw[r4] at q3
      cases q3
      have:=hlt j2 z _ b2 q4
      omega
    ·subst b2
     rcases r4 with r4 | r4
     ·exact(hoff j1 y b a1 a2 q3 (r4▸q4)).elim
     ·rw[r4] at q4
      cases q4
      have:=hlt j1 y _ a2 q3
      omega
    ·exact g5 j1 j2 y z b a2 b2 q3 q4
theorem U7{dst:Option Nat}{t u ty:TypeId}{s x:D}{vs vx:Value}{k:St→D→Option R}(h:Rel w0 F Xc ρ0 ρ st a w)(hs:RdD w (XB st.objs ρ Xc) ρ s vs)(hx:RdD w (XB st.objs ρ Xc) ρ x vx)
 (hk:lK P st dst t u s x k=some r):
 ∃y w' ρ' st' d,(Builtin.append_ #[t,u] ty #[vs,vx]).run P w=.ok y w'∧Rel w0 F Xc ρ0 ρ' st' a w'∧RdD w' (XB st'.objs ρ' Xc) ρ' d y∧k st' d=some r:=by
 unfold lK at hk
 split at hk
 ·exact Bx h hs hx hk
 ·exact U6 h hs hx hk
end
def T.anyInt?:T→Option Int
 | .v (.int _ n)=>some n
 | _=>none
def T.len?:T→Option Int
 | .v (.slice none 0 0)=>some 0
 | .sl k l=>if k<1000000000 then some (lenL l) else none
 | _=>none
@[irreducible] def cutL{α:Type}(l:List α)(lo hi:Int):Option (List α):=if 0≤hi∧hi≤l.length∧0≤lo∧lo≤hi then some ((l.take hi.toNat).drop lo.toNat) else none
@[irreducible] def mkLen(l c:Int)(b:Nat):Option (Nat×Nat):=if 0≤l∧l≤c∧(b:Int)*c≤281474976710656∧c≤maxLen then some (l.toNat,c.toNat) else none
@[irreducible] def repL{α:Type}(n:Nat)(x:α):List α:=List.replicate n x
def T.byte?:T→Option UInt8
 | .v (.int .u8 n)=>some (UInt8.ofNat n.toNat)
 | _=>none
@[irreducible] def strOf(l:List T):Option ByteArray:=(l.mapM T.byte?).map fun bs=>⟨bs.toArray⟩
def mT:Nat→Nat→List T→List T
 | 0,_,_=>[]
 | c+1,n,l=>Mq n (l.take n)::mT c n (l.drop n)
section
variable {R:Type} (P:Program)
def gD(d:D)(k:Int→Option R):Option R:=EW d fun x=>ob x.anyInt? k
def sS(z:Value):Option (List C):=if z.cells.toList.all (fun v=>v.oneCell') then some (z.cells.toList.map fun v=>.t (.v v)) else none
def Mw(e:TypeId):Bool:=match P.underlying e with
 | some (.struct fs)=>match fs[0]? with
  | some f=>match P.underlying f.type with
   | some (.pointer e')=>e'==e
   | _=>false
  | none=>false
 | _=>false
def SN(e:TypeId)(cs:List C):List C:=match cs with
 | .t (.v (.pointer none))::l=>if Mw P e=true then .self e::l else cs
 | _=>cs
def mU(st:St)(dst:Option Nat)(e:TypeId)(k:St→D→Option R):Option R:=
 match P.info? e with
 | some i=>match i.zero with
  | some z=>match sS z with
   | some cs=>f6 st dst (.box (SN P e cs)) fun st key=>k st (.s (.c (.box key 0)))
   | none=>none
  | none=>none
 | none=>none
def SO(st:St)(dst:Option Nat)(v:D)(k:St→D→Option R):Option R:=
 match xD v with
 | some cs=>if P0 cs=none then f6 st dst (.box cs) fun st key=>k st (.s (.c (.box key 0))) else none
 | none=>none
def E3:List Field→Option (List (Nat×Nat))
 | []=>some []
 | f::l=>match pA P f.type,E3 l with
  | some n,some ps=>some ((f.offset,n)::ps)
  | _,_=>none
def zP(t:TypeId)(parts:List (Nat×D))(k:D→Option R):Option R:=
 match P.info? t with
 | some i=>match i.zero with
  | some z=>match sS z,P.underlying t with
   | some cs,some (.struct fields)=>match E3 P fields.toList with
    | some ps=>match H4 (ps[·]?) cs parts with
     | some l=>k (.s (.agg l))
     | none=>none
    | none=>none
   | some cs,some (.array _ e)=>match pA P e with
    | some n=>match H4 (fun i=>some (i*n,n)) cs parts with
     | some l=>k (.s (.agg l))
     | none=>none
    | none=>none
   | _,_=>none
  | none=>none
 | none=>none
def DR(t:TypeId)(x:D)(f:Nat)(k:D→Option R):Option R:=
 match P.underlying t,x with
 | some (.struct fields),.s (.agg l)=>match fields[f]? with
  | some fd=>match pA P fd.type,nU P fd.type with
   | some n,some b=>match KK l fd.offset n b with
    | some s=>k (.s s)
    | none=>none
   | _,_=>none
  | none=>none
 | _,_=>none
def mV(t:TypeId)(x:D)(f:Nat)(k:D→Option R):Option R:=
 match P.underlying t with
 | some (.struct fields)=>match fields[f]? with
  | some fd=>match pA P fd.type with
   | some n=>if n=0 then none else mE x fun c=>match c.shift fd.offset with
    | some c'=>k (.s (.c c'))
    | none=>none
   | none=>none
  | none=>none
 | _=>none
def zQ{R:Type}(i:Int)(k:Nat→Option R):Nat→Nat→Option R
 | 0,_=>none
 | n+1,m=>bif eqI i m then k m else zQ i k n (m+1)
theorem zR{R:Type}{i:Int}{k:Nat→Option R}{r:R}:∀{n m0:Nat},zQ i k n m0=some r→∃m,m0≤m∧m<m0+n∧i=(m:Int)∧k m=some r
 | 0,m0,h=>by cases h
 | n+1,m0,h=>by
  unfold zQ at h
  cases he:eqI i m0 with
  | true=>
   rw[he] at h
   unfold eqI at he
   exact⟨m0,Nat.le_refl _,by omega,by simpa using he,h⟩
  | false=>
   rw[he] at h
   obtain⟨m,h1,h2,h3,h4⟩:=zR (n:=n) h
   exact⟨m,by omega,by omega,h3,h4⟩
theorem zS{R:Type}{i:Int}{f:Nat→Option D}{k:D→Option R}:∀(n m:Nat),zQ i (fun j=>(f j).bind k) n m=(zQ i f n m).bind k
 | 0,m=>rfl
 | n+1,m=>by
  unfold zQ
  cases eqI i m with
  | true=>rfl
  | false=>exact zS n (m+1)
def eO(st:St)(t:TypeId)(x ix:D)(k:D→Option R):Option R:=
 match P.underlying t with
 | some (.slice e)=>match pA P e with
  | some n=>mE x fun c=>gD ix fun i=>match c with
   | .t x=>ob (x.rw? n) fun l=>ob (idxL l i) fun y=>k (.s (.c (.pe n y 0)))
   | .row key=>match st.objs[key]? with
    | some (.row _ _ n' es)=>if n'=n then ob (chkI (lenL es) i) fun m=>k (.s (.c (.elt key n m 0))) else none
    | _=>none
   | .cut key m lo len _=>match st.objs[key]? with
    | some (.row _ _ n' _)=>if n'=n∧m=n then ob (chkI (ZB len) i) fun q=>k (.s (.c (.elt key n (Bp lo q) 0))) else none
    | _=>none
   | .rk key=>match rL st.objs 64 key with
    | some K=>match st.objs[K]? with
     | some (.rr _ e1 _ _ l)=>if n=1∧e1<1000000000 then ob (chkI (lenL l) i) fun m=>k (.s (.c (.elr K m))) else none
     | _=>none
    | none=>none
   | _=>none
  | none=>none
 | some (.array len e)=>match pA P e with
  | some n=>mE x fun c=>gD ix fun i=>zQ i (fun m=>match c.shift (m*n) with
   | some c'=>k (.s (.c c'))
   | none=>none) len 0
  | none=>none
 | _=>none
def DS(t:TypeId)(x ix:D)(k:D→Option R):Option R:=
 match P.underlying t with
 | some .string=>EX x fun s=>gD ix fun i=>ob (r7 s i) fun b=>k (dI .u8 b)
 | some (.array len e)=>match pA P e,nU P e,x with
  | some n,some b,.s (.agg l)=>gD ix fun i=>zQ i (fun m=>match KK l (m*n) n b with
   | some s=>k (.s s)
   | none=>none) len 0
  | _,_,_=>none
 | _=>none
def xG(d:Option D)(dflt:Int)(k:Int→Option R):Option R:=match d with
 | some d=>gD d k
 | none=>k dflt
def SP(st:St)(n:Nat)(c:C):Option (Int×(Nat×Nat→Bool→C)):=match c with
 | .t y=>(y.rw? n).map fun es=>(lenL es,fun p _=>.t (.sl n (iR es p.1 p.2)))
 | .row key=>match st.objs[key]? with
  | some (.row _ _ n' es)=>if n'=n then some (lenL es,fun p tg=>.cut key n p.1 p.2 tg) else none
  | _=>none
 | .cut key m b len _=>if m=n then some (ZB len,fun p tg=>.cut key n (Bp b p.1) p.2 tg) else none
 | _=>none
def jL(st:St)(t:TypeId)(x:D)(lo hi mx:Option D)(k:D→Option R):Option R:=
 match P.underlying t with
 | some .string=>match mx with
  | none=>EX x fun s=>xG hi (lenS s) fun h=>xG lo 0 fun l=>ob (subS s l h) fun s'=>k (dS s')
  | some _=>none
 | some (.slice e)=>match pA P e with
  | some n=>mE x fun c=>match mx,c with
   | none,.t y=>ob (y.rw? n) fun es=>xG hi (lenL es) fun h=>xG lo 0 fun l=>ob (cutL es l h) fun es'=>k (.s (.c (.t (.sl n es'))))
   | none,c=>ob (SP st n c) fun q=>xG hi q.1 fun h=>xG lo 0 fun l=>ob (ZC q.1 l h) fun p=>k (.s (.c (q.2 p false)))
   | some m,c=>match hi with
    | some h=>ob (SP st n c) fun q=>gD m fun m=>gD h fun h=>xG lo 0 fun l=>ob (Kk q.1 l h m) fun p=>k (.s (.c (q.2 p true)))
    | none=>none
  | none=>none
 | _=>none
def vY(st:St)(t:TypeId)(x:D)(k:St→D→Option R):Option R:=match P.underlying t with
 | some (.array n e)=>match pA P e,P.cellTypes P.depth e,x with
  | some m,some tys,.s (.c (.box key 0))=>match st.objs[key]? with
   | some (.box l)=>if l.length=n*m∧(0<m∧m<1000000000)∧n*m≤2 ^ 24 then fQ P (List.replicate n tys).flatten l fun ts=>
    k { st with objs:=st.objs.set key (.fbox (ts.map .t)) } (.s (.c (.t (.sl m (mT n m ts)))))
    else none
   | _=>none
  | _,_,_=>none
 | _=>none
def Kn(P:Program)(t:TypeId):Bool:=match P.underlying t with
 | some (.array _ _)=>true
 | _=>false
def l9(st:St)(t:TypeId)(x:D)(lo hi mx:Option D)(k:St→D→Option R):Option R:=
 if Kn P t=true then (if lo.isNone=true∧hi.isNone=true∧mx.isNone=true then vY P st t x k else none) else jL P st t x lo hi mx fun d=>k st d
def uC(st:St)(t:TypeId)(x:D)(k:D→Option R):Option R:=
 match P.underlying t with
 | some .string=>EX x fun s=>k (dI .i64 (lenS s))
 | some (.slice _)=>mE x fun c=>match c with
  | .t y=>ob y.len? fun n=>k (dI .i64 n)
  | .row key=>match st.objs[key]? with
   | some (.row _ _ _ es)=>k (dI .i64 (lenL es))
   | _=>none
  | .cut _ _ _ len _=>k (dI .i64 (ZB len))
  | .rk key=>match rL st.objs 64 key with
   | some K=>match st.objs[K]? with
    | some (.rr _ e1 _ _ l)=>if e1<1000000000 then k (dI .i64 (lenL l)) else none
    | _=>none
   | none=>none
  | _=>none
 | some (.array n _)=>k (dI .i64 n)
 | some (.map _ _)=>mE x fun c=>match c with
  | .t (.sl n l)=>if 1000000000≤n then k (dI .i64 (lenL l)) else none
  | .row key=>match st.objs[key]? with
   | some (.mp _ _ _ es)=>k (dI .i64 (lenL es))
   | _=>none
  | _=>none
 | _=>none
def sT(x:D)(i:Nat)(k:D→Option R):Option R:=match x with
 | .tup l=>match l[i]? with
  | some s=>k (.s s)
  | none=>none
 | _=>none
def GZ:List D→Option (List (Nat×Nat))
 | []=>some []
 | .s (.c (.box k j))::l=>(GZ l).map ((k,j)::·)
 | _=>none
def pN(fn:Fn)(first captured:List D)(k:D→Option R):Option R:=match fn,first with
 | .func f,[]=>match GZ captured with
  | some []=>k (.s (.c (.t (.v (.func (.func f) #[] #[])))))
  | some caps=>k (.s (.c (.fn f caps)))
  | none=>none
 | _,_=>none
def vZ(st:St)(src dst:TypeId)(x:D)(k:D→Option R):Option R:=
 match P.underlying src,P.underlying dst with
 | some (.int _),some (.int kd)=>gD x fun n=>k (dI kd (wr kd n))
 | some .string,some .string=>EX x fun s=>k (dS s)
 | some (.slice e),some .string=>match P.underlying e with
  | some (.int .u8)=>mE x fun c=>gC st 1 c fun l=>ob (strOf l) fun s=>k (dS s)
  | _=>none
 | _,_=>none
def kW(st:St)(dst:Option Nat)(t:TypeId)(l c:D)(k:St→D→Option R):Option R:=
 match P.underlying t with
 | some (.slice e)=>match P.info? e with
  | some i=>match i.zero with
   | some z=>match sS z with
    | some cs=>match BZ cs with
     | some ts=>if ts.length=i.size∧(0<i.size∧i.size<1000000000) then gD l fun l=>gD c fun c=>ob (mkLen l c i.bytes) fun p=>
      f6 st dst (.row false e i.size (repL p.1 (Mq i.size ts))) fun st key=>k st (.s (.c (.row key)))
      else none
     | none=>none
    | none=>none
   | none=>none
  | none=>none
 | _=>none
def uL(st:St)(dst:Option Nat)(t:TypeId)(l c:D)(k:St→D→Option R):Option R:=
 match P.underlying t with
 | some (.slice e)=>match P.info? e,P.underlying e with
  | some i,some (.slice e2)=>match i.zero,pA P e2 with
   | some (.slice none 0 0),some n=>if (i.size=1∧e<1000000000)∧(0<n∧n<1000000000) then gD l fun l=>gD c fun c=>ob (mkLen l c i.bytes) fun p=>
    f6 st dst (.rr none e e2 n (repL p.1 [])) fun st key=>k st (.s (.c (.rk key)))
    else none
   | _,_=>none
  | _,_=>none
 | _=>none
def gY(st:St)(dst:Option Nat)(t:TypeId)(len:Nat)(parts:List (Nat×D))(k:St→D→Option R):Option R:=
 match P.underlying t with
 | some (.slice e)=>match P.info? e with
  | some i=>match i.zero with
   | some z=>match sS z with
    | some cs=>if cs.length=i.size∧(0<i.size∧i.size<1000000000)∧0<len∧len*i.size≤2 ^ 24 then
     match H4 (fun q=>some (q*i.size,i.size)) ((List.range len).flatMap fun _=>cs) parts with
     | some l=>match GY st.objs l with
      | some q=>match P.cellTypes P.depth e with
       | some tys=>fQ P (List.replicate len tys).flatten q.2 fun ts=>f6 { st with objs:=q.1 } dst (.row false e i.size (mT len i.size ts)) fun st key=>k st (.s (.c (.row key)))
       | none=>none
      | none=>none
     | none=>none
     else none
    | none=>none
   | none=>none
  | none=>none
 | _=>none
def ZI(t:TypeId)(len:Nat)(parts:List (Nat×D))(k:D→Option R):Option R:=
 match P.underlying t with
 | some (.slice e)=>match P.info? e with
  | some i=>match i.zero with
   | some z=>match sS z with
    | some cs=>if cs.length=i.size∧(0<i.size∧i.size<1000000000)∧0<len∧len*i.size≤2 ^ 24 then
     match H4 (fun q=>some (q*i.size,i.size)) ((List.range len).flatMap fun _=>cs) parts with
     | some l=>match P.cellTypes P.depth e with
      | some tys=>fQ P (List.replicate len tys).flatten l fun ts=>k (.s (.c (.t (.sl i.size (mT len i.size ts)))))
      | none=>none
     | none=>none
     else none
    | none=>none
   | none=>none
  | none=>none
 | _=>none
def eV(st:St)(dst:Option Nat)(t:TypeId)(len:Nat)(parts:List (Nat×D))(k:St→D→Option R):Option R:=
 if len=0∧parts.isEmpty=true then match P.underlying t with
  | some (.slice e)=>match pA P e with
   | some n=>if 0<n∧n<1000000000 then f6 st dst (.row false e n []) fun st key=>k st (.s (.c (.row key))) else none
   | none=>none
  | _=>none
 else gY P st dst t len parts k
end
section
variable {R:Type} {P:Program} {w0 w w':World} {F Xc X:Nat→Prop} {ρ0:Base} {ρ:fN} {st:St} {a:Act} {r:R}
theorem gT{d:D}{y:Value}{k:Int→Option R}(h:RdD w X ρ d y)(hk:gD d k=some r):∃kd n,y=.int kd n∧k n=some r:=by
 obtain⟨x,_,hx,_,hk1⟩:=P1 h hk
 obtain⟨n,hn,hk2⟩:=aC hk1
 unfold T.anyInt? at hn
 split at hn
 ·cases hn;exact⟨_,_,hx.inv_v,hk2⟩
 ·cases hn
theorem d3{e:TypeId}{i:TypeInfo}{z:Value}(hi:P.info? e=some i)(hz:i.zero=some z)(w:World):(zeroValue e).run P w=.ok z w:=by
 simp[zeroValue,typeInfo,hi,hz]
theorem sP{z:Value}{cs:List C}(h:sS z=some cs):RdL w X ρ cs z.cells.toList∧(∀v∈z.cells.toList,v.oneCell'=true):=by
 unfold sS at h
 split at h
 ·rename_i hall
  cases h
  have h1:∀v∈z.cells.toList,v.oneCell'=true:=List.all_eq_true.1 hall
  refine⟨⟨by simp,fun i c y e1 e2=>?_⟩,h1⟩
  rw[List.getElem?_map,e2] at e1
  cases e1
  exact .inr ⟨.v y,h1 y (List.mem_of_getElem? e2)⟩
 ·cases h
theorem KP{z:Value}{cs:List C}(h:sS z=some cs){i:Nat}{c:C}(hc:cs[i]?=some c):∃y,c=.t (.v y)∧z.cells[i]?=some y:=by
 unfold sS at h
 split at h
 ·cases h
  rw[List.getElem?_map] at hc
  cases hz:z.cells.toList[i]? with
  | none=>simp[hz] at hc
  | some u=>simp only[hz,Option.map_some,Option.some.injEq] at hc;exact⟨u,hc.symm,by simpa using hz⟩
 ·cases h
theorem By{g:Nat}{e:TypeId}{z:Value}{cs:List C}(hc:sS z=some cs):RdL w X ρ (SN P e cs) z.cells.toList∧HeadOK (SN P e cs) g z.cells e:=by
 obtain⟨hl,_⟩:=sP (w:=w) (X:=X) (ρ:=ρ) hc
 have hn:P0 cs=none:=by
  cases ht:P0 cs with
  | none=>rfl
  | some t=>obtain⟨y,h1,_⟩:=KP hc (vV.1 ht);cases h1
 unfold SN
 split
 ·rename_i l
  split
  ·refine⟨⟨hl.1,fun i c y h1 h2=>?_⟩,fun t ht=>?_⟩
   ·cases i with
    | zero=>
     simp only[List.getElem?_cons_zero,Option.some.injEq] at h1
     subst h1
     rcases hl.2 0 _ y rfl h2 with h | ⟨_,h⟩
     ·cases h
     ·exact .inr ⟨trivial,h⟩
    | succ i=>exact hl.2 (i+1) c y (by simpa using h1) h2
   ·cases ht
    obtain⟨y,h1,h2⟩:=KP hc (i:=0) rfl
    cases h1
    exact⟨rfl,_,h2,.inl rfl⟩
  ·exact⟨hl,.none hn⟩
 ·exact⟨hl,.none hn⟩
theorem OT{dst:Option Nat}{cs:List C}{ys:Array Value}{k:St→Nat→Option R}(e:TypeId)(h:Rel w0 F Xc ρ0 ρ st a w)(hl:RdL w (XB st.objs ρ Xc) ρ cs ys.toList)(hhd:HeadOK cs w.heap.size ys e)(hk:f6 st dst (.box cs) k=some r):
 ∃ρ' st' key,Rel w0 F Xc ρ0 ρ' st' a (w.alloc (.cells ys e))∧RdD (w.alloc (.cells ys e)) (XB st'.objs ρ' Xc) ρ' (.s (.c (.box key 0))) (.pointer (some ⟨w.heap.size,0,none⟩))∧k st' key=some r:=by
 obtain⟨d,_,hf,hk1⟩:=r8 hk
 obtain⟨ρ',hR,_,hρ⟩:=h.newBox e hf hl hhd (Nat.le_add_right _ _)
 exact⟨ρ',_,_,hR,.one (c:=.box (st.np+d) 0) ⟨_,hρ,_,rfl,rfl⟩ rfl,hk1⟩
theorem ZJ{dst:Option Nat}{e:TypeId}{k:St→D→Option R}(h:Rel w0 F Xc ρ0 ρ st a w)(hk:mU P st dst e k=some r):
 ∃y w' ρ' st' d,(Instr.alloc e true (.tuple #[])).run P w=.ok y w'∧Rel w0 F Xc ρ0 ρ' st' a w'∧RdD w' (XB st'.objs ρ' Xc) ρ' d y∧k st' d=some r:=by
 unfold mU at hk
 split at hk
 case h_2=>cases hk
 rename_i i hi
 split at hk
 case h_2=>cases hk
 rename_i z hz
 split at hk
 case h_2=>cases hk
 rename_i cs hcs
 obtain⟨hl2,hh2⟩:=By (P:=P) (w:=w) (X:=XB st.objs ρ Xc) (ρ:=ρ) (g:=w.heap.size) (e:=e) hcs
 obtain⟨ρ',st',key,hR,hd,hk1⟩:=OT (ys:=z.cells) e h hl2 hh2 hk
 refine⟨_,_,ρ',st',_,?_,hR,hd,hk1⟩
 simp[Instr.alloc,d3 hi hz,newVar,newRow]
theorem Gm{dst:Option Nat}{e:TypeId}{v:D}{vv:Value}{k:St→D→Option R}(h:Rel w0 F Xc ρ0 ρ st a w)(hv:RdD w (XB st.objs ρ Xc) ρ v vv)(hk:SO st dst v k=some r):
 ∃y w' ρ' st' d,(Instr.box e vv).run P w=.ok y w'∧Rel w0 F Xc ρ0 ρ' st' a w'∧RdD w' (XB st'.objs ρ' Xc) ρ' d y∧k st' d=some r:=by
 unfold SO at hk
 split at hk
 case h_2=>cases hk
 rename_i cs hcs
 split at hk
 case isFalse=>cases hk
 rename_i htl
 obtain⟨ρ',st',key,hR,hd,hk1⟩:=OT (ys:=vv.cells) e h (pK hv hcs) (.none htl) hk
 refine⟨_,_,ρ',st',_,?_,hR,hd,hk1⟩
 simp[Instr.box,newVar,newRow]
theorem yA:∀(fs:List Field) (ps:List (Nat×Nat)),E3 P fs=some ps→(fs.mapM (fun f=>do pure (f.offset,←sizeOf f.type):Field→Sem (Nat×Nat))).run P w=.ok ps w
 | [],ps,h=>by simp only[E3,Option.some.injEq] at h;subst h;simp
 | f::l,ps,h=>by
  simp only[E3] at h
  split at h
  ·rename_i n qs hn hq
   cases h
   have ih:=yA l qs hq
   rw[List.mapM_cons]
   simp only[Sem.run_bind,bP hn,Result.andThen_ok,Sem.run_pure,ih]
  ·cases h
theorem OU{t:TypeId}{parts:List (Nat×D)}{vparts:Array (Nat×Value)}{k:D→Option R}(hlen:parts.length=vparts.toList.length)
 (hp:∀(i:Nat) p q,parts[i]?=some p→vparts.toList[i]?=some q→p.1=q.1∧RdD w X ρ p.2 q.2) (hk:zP P t parts k=some r):
 ∃y d,(Instr.build t vparts).run P w=.ok y w∧RdD w X ρ d y∧k d=some r:=by
 unfold zP at hk
 split at hk
 case h_2=>cases hk
 rename_i i hi
 split at hk
 case h_2=>cases hk
 rename_i z hz
 split at hk
 ·rename_i cs fields hcs hu
  split at hk
  case h_2=>cases hk
  rename_i ps hps
  split at hk
  case h_2=>cases hk
  rename_i l hl
  obtain⟨h1,_⟩:=sP (w:=w) (X:=X) (ρ:=ρ) hcs
  obtain⟨ys',e1,e2⟩:=zM _ parts vparts.toList cs z.cells l h1 hlen hp hl
  refine⟨.agg ys',.s (.agg l),?_,⟨ys',rfl,e2⟩,hk⟩
  have hm:=yA (P:=P) (w:=w) fields.toList ps hps
  unfold Instr.build
  simp only[Sem.run_bind,d3 hi hz,run_underlying hu,Result.andThen_ok]
  rw[Array.mapM_eq_mapM_toList]
  simp only[Sem.run_map,hm,Result.andThen_ok]
  have:(fun(x:Nat)=>ps.toArray[x]?)=(fun(x:Nat)=>ps[x]?):=by funext x;simp
  rw[this,e1]
  rfl
 ·rename_i cs ln e hcs hu
  split at hk
  case h_2=>cases hk
  rename_i n hn
  split at hk
  case h_2=>cases hk
  rename_i l hl
  obtain⟨h1,_⟩:=sP (w:=w) (X:=X) (ρ:=ρ) hcs
  obtain⟨ys',e1,e2⟩:=zM _ parts vparts.toList cs z.cells l h1 hlen hp hl
  refine⟨.agg ys',.s (.agg l),?_,⟨ys',rfl,e2⟩,hk⟩
  unfold Instr.build
  simp only[Sem.run_bind,d3 hi hz,run_underlying hu,Result.andThen_ok,bP hn,e1]
  rfl
 ·cases hk
theorem ZK{t:TypeId}{x:D}{v:Value}{f:Nat}{k:D→Option R}(h:RdD w X ρ x v)(hk:DR P t x f k=some r):
 ∃y d,(Instr.field t v f).run P w=.ok y w∧RdD w X ρ d y∧k d=some r:=by
 unfold DR at hk
 split at hk
 case h_2=>cases hk
 rename_i fields l hu
 split at hk
 case h_2=>cases hk
 rename_i fd hf
 split at hk
 case h_2=>cases hk
 rename_i n b hn hb
 split at hk
 case h_2=>cases hk
 rename_i s hs
 obtain⟨cs,rfl,hl⟩:=h
 obtain⟨y,e1,e2⟩:=BX (P:=P) hl hn hb hs
 refine⟨y,.s s,?_,e2,hk⟩
 unfold Instr.field
 simp only[Sem.run_bind,run_underlying hu,Result.andThen_ok,hf,asAgg,Sem.run_pure,e1]
theorem NG{t:TypeId}{x:D}{v:Value}{f:Nat}{k:D→Option R}(h:RdD w X ρ x v)(hk:mV P t x f k=some r):
 ∃y d,(Instr.fieldAt t v f).run P w=.ok y w∧RdD w X ρ d y∧k d=some r:=by
 unfold mV at hk
 split at hk
 case h_2=>cases hk
 rename_i fields hu
 split at hk
 case h_2=>cases hk
 rename_i fd hf
 split at hk
 case h_2=>cases hk
 rename_i n hn
 split at hk
 case isTrue=>cases hk
 rename_i hn0
 obtain⟨c,rfl,hc,hk1⟩:=jJ h hk
 clear hk
 split at hk1
 case h_2=>cases hk1
 rename_i c' hc'
 obtain⟨ad,rfl,hr⟩:=SL hc hc'
 refine⟨_,_,?_,.one hr rfl,hk1⟩
 unfold Instr.fieldAt
 simp only[Sem.run_bind,run_underlying hu,Result.andThen_ok,hf,Instr.sureAddr,Sem.run_pure,fieldPlace,bP hn,if_neg hn0]
theorem NH{t:TypeId}{x ix:D}{v vi:Value}{k:D→Option R}(hR:Rel w0 F Xc ρ0 ρ st a w)(h:RdD w (XB st.objs ρ Xc) ρ x v)(hi:RdD w (XB st.objs ρ Xc) ρ ix vi)(hk:eO P st t x ix k=some r):
 ∃y d,(Instr.indexAt t v vi).run P w=.ok y w∧RdD w (XB st.objs ρ Xc) ρ d y∧k d=some r:=by
 unfold eO at hk
 split at hk
 ·rename_i e hu
  split at hk
  case h_2=>cases hk
  rename_i n hn
  obtain⟨c,rfl,hc,hk1⟩:=jJ h hk
  obtain⟨kd,i,rfl,hk2⟩:=gT hi hk1
  clear hk hk1
  split at hk2
  ·rename_i y
   obtain⟨l,hl,hk3⟩:=aC hk2
   obtain⟨z,hz,hk4⟩:=aC hk3
   obtain⟨h0,hz⟩:=ZF hz
   rcases hc with hc | ⟨hc,_⟩
   ·cases hc
   ·obtain⟨hnm,hl⟩:=T.rw_some hl
    unfold T.sl? at hl
    split at hl
    ·rw[if_pos hnm] at hl;cases hl;simp at hz
    ·split at hl
     ·rename_i hkk
      cases hl
      subst hkk
      have hc0:Rd w (XB st.objs ρ Xc) (.sl _ l) v:=hc
      cases hc with
      | mp _ _ _ _ _ hbig=>omega
      | nil=>simp at hz
      | sl _ _ ad q ys _ hq hm hu' hy hcell hr=>
       obtain⟨_,hp⟩:=hc0.elem hz
       have hlt:i.toNat<l.length:=(List.getElem?_eq_some_iff.1 hz).1
       refine⟨.pointer (some (ad.add (i.toNat*_))),_,?_,.one (c:=.pe _ z 0) ⟨_,rfl,hp⟩ rfl,hk4⟩
       unfold Instr.indexAt
       simp only[asIntOf,Sem.run_bind,Sem.run_pure,run_underlying hu,Result.andThen_ok]
       rw[Sem.run_ite,if_pos (by omega)]
       simp only[Sem.run_bind,bP hn,Result.andThen_ok,Sem.run_pure]
     ·cases hl
    ·cases hl
  ·rename_i key
   split at hk2
   case h_2=>cases hk2
   rename_i fz e' n' es hob
   split at hk2
   case isFalse=>cases hk2
   rename_i hnn
   subst hnn
   obtain⟨m,hm,hk3⟩:=aC hk2
   obtain⟨m0,m1,m2,m3⟩:=GV hm
   unfold lenL at m1
   rcases hc with hc | ⟨hc,_⟩
   ·cases hc
   ·obtain⟨hv,e1,e2⟩:=hR.objs key _ hob
    simp only[RdC] at hc
    have hcc:=hc
    rw[hc] at e1
    cases e1
    rcases fZ e2 with⟨rfl,rfl⟩ | ⟨a0,cap,rfl,h1,h2,xs,hr,hcell⟩
    ·simp at m1;omega
    ·refine⟨.pointer (some (a0.add (i.toNat*n'))),_,?_,.one (c:=.elt key n' m 0) ⟨_,hcc,_,rfl,by rw[m3,Nat.add_zero]⟩ rfl,hk3⟩
     unfold Instr.indexAt
     simp only[asIntOf,Sem.run_bind,Sem.run_pure,run_underlying hu,Result.andThen_ok]
     rw[Sem.run_ite,if_pos (by omega)]
     simp only[Sem.run_bind,bP hn,Result.andThen_ok,Sem.run_pure]
  ·rename_i key m lo len tg
   split at hk2
   case h_2=>cases hk2
   rename_i fz e' n' es hob
   split at hk2
   case isFalse=>cases hk2
   rename_i hnn
   obtain⟨rfl,rfl⟩:=hnn
   obtain⟨q,hq,hk3⟩:=aC hk2
   obtain⟨m0,m1,m2,m3⟩:=GV hq
   unfold ZB at m1
   unfold Bp at hk3
   rcases hc with hc | ⟨⟨hv,q1,q2⟩,_⟩
   ·cases hc
   ·obtain⟨ao,L,c,cc,ao',rfl,rfl,g1,g2,g3,g4,_⟩:=q2
    have g5:=g4 (by omega)
    cases ao with
    | none=>
     exfalso
     obtain⟨hv',e1,e2⟩:=hR.objs key _ hob
     rw[q1] at e1
     cases e1
     rcases fZ e2 with⟨e3,_⟩ | ⟨a0,cap,e3,_⟩
     ·cases e3;omega
     ·cases e3
    | some a0=>
     subst g5
     refine⟨.pointer (some ((a0.add (lo*m)).add (i.toNat*m))),_,?_,.one (c:=.elt key m (lo+q) 0) ⟨_,q1,_,rfl,by rw[kG,m3,Nat.add_zero,Nat.add_mul]⟩ rfl,hk3⟩
     unfold Instr.indexAt
     simp only[Option.map_some,asIntOf,Sem.run_bind,Sem.run_pure,run_underlying hu,Result.andThen_ok]
     rw[Sem.run_ite,if_pos (by omega)]
     simp only[Sem.run_bind,bP hn,Result.andThen_ok,Sem.run_pure]
  ·rename_i key
   split at hk2
   case h_2=>cases hk2
   rename_i K hK
   split at hk2
   case h_2=>cases hk2
   rename_i l0 hob
   split at hk2
   case isFalse=>cases hk2
   rename_i hn1
   obtain⟨hn1,hesm⟩:=hn1
   obtain⟨m,hm,hk3⟩:=aC hk2
   obtain⟨m0,m1,m2,m3⟩:=GV hm
   unfold lenL at m1
   rcases hc with hc | ⟨⟨vs,q1,q2⟩,_⟩
   ·cases hc
   ·obtain⟨hole,e',e2,n',l,vs',f1,f2,f3,f4⟩:=uJ hR hK q1
    rw[hob] at f1
    cases f1
    subst hn1
    rcases f4.head (f3.trans q2) with hbig | ⟨rfl,rfl⟩ | ⟨a0,cap,rfl⟩
    ·exact(Nat.not_lt.2 hbig hesm).elim
    ·simp at m1;omega
    ·refine⟨.pointer (some (a0.add (i.toNat*1))),_,?_,.one (c:=.elr K m) ⟨vs',_,f2,f3.trans q2,a0,rfl,by rw[m3,Nat.mul_one]⟩ rfl,hk3⟩
     unfold Instr.indexAt
     simp only[asIntOf,Sem.run_bind,Sem.run_pure,run_underlying hu,Result.andThen_ok]
     rw[Sem.run_ite,if_pos (by omega)]
     simp only[Sem.run_bind,bP hn,Result.andThen_ok,Sem.run_pure]
  ·cases hk2
 ·rename_i ln e hu
  split at hk
  case h_2=>cases hk
  rename_i n hn
  obtain⟨c,rfl,hc,hk1⟩:=jJ h hk
  obtain⟨kd,i,rfl,hk2⟩:=gT hi hk1
  obtain⟨m,_,hm,hmi,hk3⟩:=zR hk2
  clear hk hk1 hk2
  have m0:0≤i:=by omega
  have m1:i<ln:=by omega
  have m3:i.toNat=m:=by omega
  split at hk3
  case h_2=>cases hk3
  rename_i c' hc'
  obtain⟨ad,rfl,hr⟩:=SL hc hc'
  refine⟨_,_,?_,.one hr rfl,hk3⟩
  unfold Instr.indexAt
  simp only[asIntOf,Sem.run_bind,Sem.run_pure,run_underlying hu,Result.andThen_ok,Instr.sureAddr]
  rw[Sem.run_ite,if_pos (by omega),m3]
  simp only[Sem.run_bind,bP hn,Result.andThen_ok,Sem.run_pure]
 ·cases hk
theorem ZL{t:TypeId}{x ix:D}{v vi:Value}{k:D→Option R}(h:RdD w X ρ x v)(hi:RdD w X ρ ix vi)(hk:DS P t x ix k=some r):
 ∃y d,(Instr.index t v vi).run P w=.ok y w∧RdD w X ρ d y∧k d=some r:=by
 unfold DS at hk
 split at hk
 ·rename_i hu
  obtain⟨s,rfl,hk1⟩:=pJ h hk
  obtain⟨kd,i,rfl,hk2⟩:=gT hi hk1
  obtain⟨b,hb,hk3⟩:=aC hk2
  unfold r7 at hb
  split at hb
  ·rename_i h0
   cases hs:s[i.toNat]? with
   | none=>simp[hs] at hb
   | some c=>
    simp only[hs,Option.map_some,Option.some.injEq] at hb
    subst hb
    refine⟨_,_,?_,.int .u8 _,hk3⟩
    unfold Instr.index
    simp only[asIntOf,Sem.run_bind,Sem.run_pure,run_underlying hu,Result.andThen_ok,h0,if_true,hs]
  ·cases hb
 ·rename_i ln e hu
  split at hk
  case h_2=>cases hk
  rename_i n b l hn hb
  obtain⟨cs,rfl,hl⟩:=h
  obtain⟨kd,i,rfl,hk2⟩:=gT hi hk
  obtain⟨m,_,hm,hmi,hk3⟩:=zR hk2
  have m0:0≤i:=by omega
  have m1:i<ln:=by omega
  have m3:i.toNat=m:=by omega
  split at hk3
  case h_2=>cases hk3
  rename_i s hs
  obtain⟨y,e1,e2⟩:=BX (P:=P) hl hn hb hs
  refine⟨y,.s s,?_,e2,hk3⟩
  unfold Instr.index
  simp only[asIntOf,Sem.run_bind,Sem.run_pure,run_underlying hu,Result.andThen_ok]
  rw[Sem.run_ite,if_pos (by omega),m3]
  simp only[Sem.run_bind,bP hn,Result.andThen_ok,e1]
 ·cases hk
theorem SQ{x:D}{v:Value}{i:Nat}{k:D→Option R}(h:RdD w X ρ x v)(hk:sT x i k=some r):
 ∃y d,(Instr.extract v i).run P w=.ok y w∧RdD w X ρ d y∧k d=some r:=by
 unfold sT at hk
 split at hk
 ·rename_i l
  split at hk
  ·rename_i s hs
   obtain⟨vs,rfl,hl⟩:=h
   have hlt:i<l.length:=(List.getElem?_eq_some_iff.1 hs).1
   have hv:vs.toList[i]?=some (vs.toList[i]'(by rw[hl.1];exact hlt)):=List.getElem?_eq_getElem _
   have hv':vs[i]?=some (vs.toList[i]'(by rw[hl.1];exact hlt)):=by rw[←hv,Array.getElem?_toList]
   refine⟨_,.s s,?_,hl.2 i s _ hs hv,hk⟩
   simp only[Instr.extract,hv',Sem.run_pure]
  ·cases hk
 ·cases hk
end
section
variable {R:Type} {P:Program} {w0 w w':World} {F Xc X:Nat→Prop} {ρ0:Base} {ρ:fN} {st:St} {a:Act} {r:R}
def H9(w:World)(X:Nat→Prop)(ρ:fN):Option D→Option Value→Prop
 | some d,some v=>RdD w X ρ d v
 | none,none=>True
 | _,_=>False
theorem pO{od:Option D}{ov:Option Value}{dflt:Int}{k:Int→Option R}(h:H9 w X ρ od ov)(hk:xG od dflt k=some r):
 ∃n,k n=some r∧((ov=none∧n=dflt)∨∃kd,ov=some (.int kd n)):=by
 cases od with
 | none=>
  cases ov with
  | none=>exact⟨dflt,hk,.inl ⟨rfl,rfl⟩⟩
  | some v=>exact h.elim
 | some d=>
  cases ov with
  | none=>exact h.elim
  | some v=>
   obtain⟨kd,n,rfl,hk1⟩:=gT h hk
   exact⟨n,hk1,.inr ⟨kd,rfl⟩⟩
theorem zT{isS:Bool}{len cap:Nat}{lo hi:Option Value}{l h:Int}(hl:(lo=none∧l=0)∨∃kd,lo=some (.int kd l))(hh:(hi=none∧h=len)∨∃kd,hi=some (.int kd h))
 (h0:0≤h) (hlen:h≤len) (hcap:len≤cap) (l0:0≤l) (hlh:l≤h):
 (Instr.sliceBounds isS len cap lo hi none).run P w=.ok (l.toNat,h.toNat,cap) w:=by
 have hb:∀(kd:IntKind) (i:Int) (n:Nat) (c:BoundsCode),0≤i→i≤n→(Instr.sliceBound (.int kd i) n c).run P w=.ok i.toNat w:=by
  intro kd i n c h1 h2
  unfold Instr.sliceBound
  simp only[asIntOf,Sem.run_bind,Sem.run_pure,Result.andThen_ok]
  rw[Sem.run_ite,if_pos ⟨h1,h2⟩]
  rfl
 unfold Instr.sliceBounds
 rcases hh with⟨rfl,rfl⟩ | ⟨kd,rfl⟩ <;> rcases hl with⟨rfl,rfl⟩ | ⟨kd',rfl⟩
 ·simp only[Sem.run_bind,Sem.run_pure,Result.andThen_ok];rfl
 ·simp only[Sem.run_bind,Sem.run_pure,Result.andThen_ok]
  rw[hb _ _ _ _ l0 (by omega)]
  simp only[Result.andThen_ok,Int.toNat_natCast]
 ·simp only[Sem.run_bind,Sem.run_pure,Result.andThen_ok]
  rw[hb _ _ _ _ h0 (by omega)]
  simp only[Result.andThen_ok]
  rfl
 ·simp only[Sem.run_bind,Sem.run_pure,Result.andThen_ok]
  rw[hb _ _ _ _ h0 (by omega)]
  simp only[Result.andThen_ok]
  rw[hb _ _ _ _ l0 (by omega)]
  simp only[Result.andThen_ok]
theorem I1{len cap:Nat}{lo:Option Value}{l h m:Int}{kh km:IntKind}(hl:(lo=none∧l=0)∨∃kd,lo=some (.int kd l))(m0:0≤m)(hm:m≤cap)(h0:0≤h)(hhm:h≤m)(l0:0≤l)(hlh:l≤h):
 (Instr.sliceBounds true len cap lo (some (.int kh h)) (some (.int km m))).run P w=.ok (l.toNat,h.toNat,m.toNat) w:=by
 have hb:∀(kd:IntKind) (i:Int) (n:Nat) (c:BoundsCode),0≤i→i≤n→(Instr.sliceBound (.int kd i) n c).run P w=.ok i.toNat w:=by
  intro kd i n c h1 h2
  unfold Instr.sliceBound
  simp only[asIntOf,Sem.run_bind,Sem.run_pure,Result.andThen_ok]
  rw[Sem.run_ite,if_pos ⟨h1,h2⟩]
  rfl
 unfold Instr.sliceBounds
 rcases hl with⟨rfl,rfl⟩ | ⟨kd',rfl⟩
 ·simp only[Sem.run_bind,Sem.run_pure,Result.andThen_ok]
  rw[hb _ _ _ _ m0 hm]
  simp only[Result.andThen_ok]
  rw[hb _ _ _ _ h0 (by omega)]
  simp only[Result.andThen_ok]
  rfl
 ·simp only[Sem.run_bind,Sem.run_pure,Result.andThen_ok]
  rw[hb _ _ _ _ m0 hm]
  simp only[Result.andThen_ok]
  rw[hb _ _ _ _ h0 (by omega)]
  simp only[Result.andThen_ok]
  rw[hb _ _ _ _ l0 (by omega)]
  simp only[Result.andThen_ok]
theorem P7{n:Nat}{c:C}{v:Value}{q:Int×(Nat×Nat→Bool→C)}(hR:Rel w0 F Xc ρ0 ρ st a w)(hc:RdC1 w (XB st.objs ρ Xc) ρ c v)(hq:SP st n c=some q):
 ∃(ad:Option Addr) (L cap:Nat),v=.slice ad L cap∧L≤cap∧q.1=L∧∀(lo hi m:Nat) (tg:Bool),lo≤hi→hi≤m→hi≤L→m≤cap→(tg=true→hi=m) →
  RdC1 w (XB st.objs ρ Xc) ρ (q.2 (lo,hi-lo) tg) (.slice (if m=lo then ad else ad.map (·.add (lo*n))) (hi-lo) (m-lo)):=by
 unfold SP at hq
 split at hq
 ·rename_i y
  cases hes:y.rw? n with
  | none=>simp[hes] at hq
  | some es=>
   simp only[hes,Option.map_some,Option.some.injEq] at hq
   subst hq
   rcases hc with hc | ⟨hc,_⟩
   ·cases hc
   obtain⟨hnm,hes⟩:=T.rw_some hes
   have hy:Rd w (XB st.objs ρ Xc) (.sl n es) v:=by
    unfold T.sl? at hes
    split at hes
    ·rw[if_pos hnm] at hes;cases hes;have:=Rd.inv_v hc;subst this;exact .nil n hnm
    ·split at hes
     ·rename_i hk;cases hes;subst hk;exact hc
     ·cases hes
    ·cases hes
   cases hy with
   | mp _ _ _ _ _ hbig=>omega
   | nil=>
    refine⟨none,0,0,rfl,Nat.le_refl _,by unfold lenL;rfl,fun lo hi m tg h1 h2 h3 h4 _=>?_⟩
    have e1:hi=0:=by omega
    have e2:lo=0:=by omega
    have e3:m=0:=by omega
    subst e1;subst e2;subst e3
    refine .inr ⟨?_,rfl⟩
    show Rd _ _ (.sl n (iR [] 0 0)) (.slice none 0 0)
    unfold iR
    exact .nil n hnm
   | sl _ _ ad c ys _ hc' hm hu hyl hcell hr=>
    refine⟨some ad,_,c,rfl,hc',by unfold lenL;rfl,fun lo hi m tg h1 h2 h3 h4 _=>.inr ⟨?_,rfl⟩⟩
    show Rd _ _ (.sl n (iR es lo (hi-lo))) _
    unfold iR
    have hlen:((es.drop lo).take (hi-lo)).length=hi-lo:=by rw[List.length_take,List.length_drop];omega
    have hfl:flat ((es.drop lo).take (hi-lo))=((flat es).drop (lo*n)).take ((hi-lo)*n):=by rw[(hu.drop lo).flat_take,hu.flat_drop]
    by_cases hml:m=lo
    ·rw[if_pos hml]
     have hz:hi-lo=0:=by omega
     rw[hz,List.take_zero]
     exact .sl n [] ad _ [] hnm (Nat.zero_le _) (by omega) (.nil _) rfl (fun i y hi=>by simp at hi) (fun i t y hi _=>by simp[flat] at hi)
    ·rw[if_neg hml]
     have hul:=hu.length
     have key:Rd w (XB st.objs ρ Xc) (.sl n ((es.drop lo).take (hi-lo))) (.slice (some (ad.add (lo*n))) ((es.drop lo).take (hi-lo)).length (m-lo)):=by
      refine .sl n _ _ _ ((ys.drop (lo*n)).take ((hi-lo)*n)) hnm (by rw[hlen];omega) (by omega) ((hu.drop lo).take _) (by rw[hfl];simp[hyl]) (fun i y hi=>?_) (fun i t y h1 h2=>?_)
      ·rw[List.getElem?_take] at hi
       split at hi
       ·rw[List.getElem?_drop] at hi
        rw[kG,dH]
        exact hcell _ y hi
       ·cases hi
      ·rw[hfl] at h1
       rw[List.getElem?_take] at h1 h2
       split at h1
       ·rename_i hlt
        rw[if_pos hlt] at h2
        rw[List.getElem?_drop] at h1 h2
        exact hr _ t y h1 h2
       ·cases h1
     rw[hlen] at key
     exact key
 ·rename_i key
  split at hq
  ·rename_i fz e n' es hob
   split at hq
   ·rename_i hn
    subst hn
    cases hq
    rcases hc with hc | ⟨hc,_⟩
    ·cases hc
    obtain⟨hv,e1,e2⟩:=hR.objs key _ hob
    have hcc:ρ key=some v:=hc
    rw[hcc] at e1
    cases e1
    obtain⟨ad,cap,hv,hlc,hnil⟩:∃ad cap,v=.slice ad es.length cap∧es.length≤cap∧(ad=none→cap=0):=by
     rcases fZ e2 with⟨rfl,rfl⟩ | ⟨a0,cap,rfl,h1,_⟩
     ·exact⟨none,0,rfl,Nat.le_refl _,fun _=>rfl⟩
     ·exact⟨some a0,cap,rfl,h1,fun h=>by cases h⟩
    subst hv
    refine⟨ad,es.length,cap,rfl,hlc,by unfold lenL;rfl,fun lo hi m tg h1 h2 h3 h4 h5=>.inr ⟨⟨_,hcc,ad,es.length,cap,m-lo,_,rfl,rfl,by omega,by omega,by omega,fun h6=>by rw[if_neg (by omega)],fun h6=>by have:=h5 h6;omega⟩,rfl⟩⟩
   ·cases hq
  ·cases hq
 ·rename_i key m' b len tg'
  split at hq
  ·rename_i hn
   subst hn
   cases hq
   rcases hc with hc | ⟨⟨hv,q1,q2⟩,_⟩
   ·cases hc
   obtain⟨ao,L,c,cc,ao',rfl,rfl,g1,g2,g3,g4,g5⟩:=q2
   refine⟨ao',len,cc,rfl,g2,by unfold ZB;rfl,fun lo hi m tg h1 h2 h3 h4 h5=>.inr ⟨?_,rfl⟩⟩
   show RdC _ _ _ (.cut key m' (Bp b lo) (hi-lo) tg) _
   unfold Bp
   refine⟨_,q1,ao,L,c,m-lo,_,rfl,rfl,by omega,by omega,by omega,fun h6=>?_,fun h6=>by have:=h5 h6;omega⟩
   rw[if_neg (by omega),g4 (by omega),Option.map_map]
   cases ao with
   | none=>rfl
   | some a0=>simp only[Option.map_some,Function.comp,kG,Nat.add_mul]
  ·cases hq
 ·cases hq
theorem ZM{t:TypeId}{x:D}{v:Value}{lo hi mx:Option D}{vlo vhi vmx:Option Value}{k:D→Option R}(hR:Rel w0 F Xc ρ0 ρ st a w)(h:RdD w (XB st.objs ρ Xc) ρ x v)(hlo:H9 w (XB st.objs ρ Xc) ρ lo vlo)(hhi:H9 w (XB st.objs ρ Xc) ρ hi vhi)
 (hmx:H9 w (XB st.objs ρ Xc) ρ mx vmx) (hk:jL P st t x lo hi mx k=some r):∃y d,(Instr.sliceAt t v vlo vhi vmx).run P w=.ok y w∧RdD w (XB st.objs ρ Xc) ρ d y∧k d=some r:=by
 unfold jL at hk
 split at hk
 ·rename_i hu
  split at hk
  case h_2=>cases hk
  have:vmx=none:=by cases vmx with | none=>rfl | some v=>exact hmx.elim
  subst this
  obtain⟨s,rfl,hk1⟩:=pJ h hk
  obtain⟨h',hk2,eh⟩:=pO hhi hk1
  obtain⟨l',hk3,el⟩:=pO hlo hk2
  obtain⟨s',hs',hk4⟩:=aC hk3
  clear hk hk1 hk2 hk3
  unfold subS at hs'
  split at hs'
  ·rename_i hc
   obtain⟨c1,c2,c3,c4⟩:=hc
   cases hs'
   refine⟨_,_,?_,.str _,hk4⟩
   unfold Instr.sliceAt
   simp only[Sem.run_bind,run_underlying hu,Result.andThen_ok]
   unfold Instr.slice
   simp only[Sem.run_bind,run_underlying hu,Result.andThen_ok,Option.isSome_none,Bool.false_eq_true,if_false,Sem.run_pure]
   rw[zT el (by unfold lenS at eh;exact eh) c1 c2 (Nat.le_refl _) c3 c4]
   rfl
  ·cases hs'
 ·rename_i e hu
  split at hk
  case h_2=>cases hk
  rename_i n hn
  obtain⟨c,rfl,hc,hk1⟩:=jJ h hk
  clear hk
  have key2:∀{L cap:Nat} {ad:Option Addr} {h' l':Int},vmx=none→((vhi=none∧h'=L)∨∃kd,vhi=some (.int kd h'))→((vlo=none∧l'=0)∨∃kd,vlo=some (.int kd l'))→0≤l'→l'≤h'→h'≤L→L≤cap →
   (Instr.sliceAt t (.slice ad L cap) vlo vhi vmx).run P w=.ok (.slice (if cap=l'.toNat then ad else ad.map (·.add (l'.toNat*n))) (h'.toNat-l'.toNat) (cap-l'.toNat)) w:=by
   intro L cap ad h' l' hm eh el c1 c2 c3 hcap
   subst hm
   unfold Instr.sliceAt
   simp only[Sem.run_bind,run_underlying hu,Result.andThen_ok]
   unfold Instr.slice
   simp only[Sem.run_bind,run_underlying hu,Result.andThen_ok]
   rw[zT el eh (by omega) c3 hcap c1 c2]
   simp only[Result.andThen_ok,bP hn,Sem.run_bind,Sem.run_pure]
  split at hk1
  ·rename_i y
   have:vmx=none:=by cases vmx with | none=>rfl | some v=>exact hmx.elim
   obtain⟨es,hes,hk1'⟩:=aC hk1
   obtain⟨h',hk2,eh⟩:=pO hhi hk1'
   obtain⟨l',hk3,el⟩:=pO hlo hk2
   obtain⟨es',hes',hk4⟩:=aC hk3
   clear hk1 hk1' hk2 hk3
   obtain⟨ad,L,cap,rfl,g1,g2,g3⟩:=P7 (n:=n) (q:=(lenL es,fun p _=>.t (.sl n (iR es p.1 p.2)))) hR hc (by simp only[SP,hes,Option.map_some])
   dsimp only at g2 g3
   unfold cutL at hes'
   split at hes'
   case isFalse=>cases hes'
   rename_i hcc
   obtain⟨c1,c2,c3,c4⟩:=hcc
   cases hes'
   have hLe:(es.length:Int)=L:=by unfold lenL at g2;exact g2
   refine⟨_,_,key2 this (by rw[g2] at eh;exact eh) el c3 c4 (by omega) g1,?_,hk4⟩
   have:=g3 l'.toNat h'.toNat cap false (by omega) (by omega) (by omega) (Nat.le_refl _) (fun h=>by cases h)
   have e3:iR es l'.toNat (h'.toNat-l'.toNat)=(es.take h'.toNat).drop l'.toNat:=by unfold iR;rw[List.drop_take]
   rw[e3] at this
   exact this
  ·rename_i hnt
   have:vmx=none:=by cases vmx with | none=>rfl | some v=>exact hmx.elim
   obtain⟨q,hq,hk1'⟩:=aC hk1
   obtain⟨h',hk2,eh⟩:=pO hhi hk1'
   obtain⟨l',hk3,el⟩:=pO hlo hk2
   obtain⟨p,hp,hk4⟩:=aC hk3
   clear hk1 hk1' hk2 hk3
   obtain⟨ad,L,cap,rfl,g1,g2,g3⟩:=P7 hR hc hq
   rw[g2] at hp eh
   obtain⟨c1,c2,c3,rfl⟩:=ZD hp
   refine⟨_,_,key2 this eh el c1 c2 c3 g1,?_,hk4⟩
   have:=g3 l'.toNat h'.toNat cap false (by omega) (by omega) (by omega) (Nat.le_refl _) (fun h=>by cases h)
   have e3:(h'-l').toNat=h'.toNat-l'.toNat:=by omega
   rw[e3]
   exact this
  ·rename_i m
   split at hk1
   case h_2=>cases hk1
   rename_i hd
   cases vmx with
   | none=>exact hmx.elim
   | some vm=>
   cases vhi with
   | none=>exact hhi.elim
   | some vh=>
   obtain⟨q,hq,hk2⟩:=aC hk1
   obtain⟨km,m',rfl,hk3⟩:=gT hmx hk2
   obtain⟨kh,h',rfl,hk4⟩:=gT hhi hk3
   obtain⟨l',hk5,el⟩:=pO hlo hk4
   obtain⟨p,hp,hk6⟩:=aC hk5
   clear hk1 hk2 hk3 hk4 hk5
   obtain⟨ad,L,cap,rfl,g1,g2,g3⟩:=P7 hR hc hq
   rw[g2] at hp
   obtain⟨c1,c2,c3,c4,rfl⟩:=ZE hp
   refine⟨.slice (if m'.toNat=l'.toNat then ad else ad.map (·.add (l'.toNat*n))) (h'.toNat-l'.toNat) (m'.toNat-l'.toNat),_,?_,?_,hk6⟩
   ·unfold Instr.sliceAt
    simp only[Sem.run_bind,run_underlying hu,Result.andThen_ok]
    unfold Instr.slice
    simp only[Sem.run_bind,run_underlying hu,Result.andThen_ok]
    rw[I1 el (by omega) (by omega) (by omega) (by omega) c1 c2]
    simp only[Result.andThen_ok,bP hn,Sem.run_bind,Sem.run_pure]
   ·have:=g3 l'.toNat h'.toNat m'.toNat true (by omega) (by omega) (by omega) (by omega) (fun _=>by omega)
    have e3:(h'-l').toNat=h'.toNat-l'.toNat:=by omega
    rw[e3]
    exact this
 ·cases hk
theorem Gn{t ty:TypeId}{x:D}{v:Value}{k:D→Option R}(hR:Rel w0 F Xc ρ0 ρ st a w)(h:RdD w (XB st.objs ρ Xc) ρ x v)(hk:uC P st t x k=some r):
 ∃y d,(Builtin.len_ #[t] ty #[v]).run P w=.ok y w∧RdD w (XB st.objs ρ Xc) ρ d y∧k d=some r:=by
 have hlen:∀{d:TypeDesc} {y:Value} {q:Value},P.underlying t=some d→(match d,y with
  | .string,.string s=>some (goInt s.size)
  | .array n _,_=>some (goInt n)
  | .slice _,.slice _ n _=>some (goInt n)
  | _,_=>none)=some q→(Builtin.len_ #[t] ty #[y]).run P w=.ok q w:=by
  intro d y q hu he
  unfold Builtin.len_
  simp only[List.getElem?_toArray,List.getElem?_cons_zero,Sem.run_bind,run_underlying hu,Result.andThen_ok]
  split at he <;> first
   | (cases he;rfl)
   | (cases he;done)
 unfold uC at hk
 split at hk
 ·rename_i hu
  obtain⟨s,rfl,hk1⟩:=pJ h hk
  exact⟨_,_,hlen hu rfl,.int .i64 _,by unfold lenS at hk1;exact hk1⟩
 ·rename_i e hu
  obtain⟨c,rfl,hc,hk1⟩:=jJ h hk
  clear hk
  split at hk1
  ·rename_i y
   obtain⟨n,hn,hk2⟩:=aC hk1
   rcases hc with hc | ⟨hc,_⟩
   ·cases hc
   ·unfold T.len? at hn
    split at hn
    ·cases hn
     have:=Rd.inv_v hc
     subst this
     exact⟨_,_,hlen hu rfl,.int .i64 _,hk2⟩
    ·split at hn
     case isFalse=>cases hn
     rename_i hnm
     cases hn
     unfold lenL at hk2
     cases hc with
     | mp _ _ _ _ _ hbig=>omega
     | nil=>exact⟨_,_,hlen hu rfl,.int .i64 _,hk2⟩
     | sl=>exact⟨_,_,hlen hu rfl,.int .i64 _,hk2⟩
    ·cases hn
  ·rename_i key
   split at hk1
   ·rename_i fz e' n' es hob
    rcases hc with hc | ⟨hc,_⟩
    ·cases hc
    ·obtain⟨hv,e1,e2⟩:=hR.objs key _ hob
     simp only[RdC] at hc
     rw[hc] at e1
     cases e1
     unfold lenL at hk1
     rcases fZ e2 with⟨rfl,rfl⟩ | ⟨a0,cap,rfl,h1,h2,xs,hr,hcell⟩
     ·exact⟨_,_,hlen hu rfl,.int .i64 _,hk1⟩
     ·exact⟨_,_,hlen hu rfl,.int .i64 _,hk1⟩
   ·cases hk1
  ·rename_i key n lo len tg
   rcases hc with hc | ⟨⟨hv,q1,q2⟩,_⟩
   ·cases hc
   ·obtain⟨ao,L,c,cc,ao',rfl,rfl,g1,g2,g3,g4,_⟩:=q2
    unfold ZB at hk1
    exact⟨_,_,hlen hu rfl,.int .i64 _,hk1⟩
  ·rename_i key
   split at hk1
   case h_2=>cases hk1
   rename_i K hK
   split at hk1
   case h_2=>cases hk1
   rename_i l0 hob
   split at hk1
   case isFalse=>cases hk1
   rename_i hesm
   rcases hc with hc | ⟨⟨vs,q1,q2⟩,_⟩
   ·cases hc
   ·obtain⟨hole,e',e2,n',l,vs',f1,f2,f3,f4⟩:=uJ hR hK q1
    rw[hob] at f1
    cases f1
    unfold lenL at hk1
    rcases f4.head (f3.trans q2) with hbig | ⟨rfl,rfl⟩ | ⟨a0,cap,rfl⟩
    ·exact(Nat.not_lt.2 hbig hesm).elim
    ·exact⟨_,_,hlen hu rfl,.int .i64 _,hk1⟩
    ·exact⟨_,_,hlen hu rfl,.int .i64 _,hk1⟩
  ·cases hk1
 ·rename_i n e hu
  exact⟨_,_,hlen hu rfl,.int .i64 _,hk⟩
 ·rename_i kt e hu
  have hmap:∀{g:Nat} {es:Array MapEntry} {clock:Nat},w.heap[g]?=some (.map es clock)→(Builtin.len_ #[t] ty #[.map (some g)]).run P w=.ok (goInt es.size) w:=by
   intro g es clock hg
   unfold Builtin.len_
   simp only[List.getElem?_toArray,List.getElem?_cons_zero,Sem.run_bind,run_underlying hu,Result.andThen_ok,MapKept.run_getObj_map hg]
   rfl
  obtain⟨c,rfl,hc,hk1⟩:=jJ h hk
  clear hk
  split at hk1
  ·rename_i n l
   split at hk1
   case isFalse=>cases hk1
   rename_i hnm
   rcases hc with hc | ⟨hc,_⟩
   ·cases hc
   ·unfold lenL at hk1
    cases hc with
    | mp _ _ g es clock _ hg _ hl=>exact⟨_,_,hmap hg,by rw[hl];exact .int .i64 _,hk1⟩
    | nil=>omega
    | sl=>omega
  ·rename_i key
   split at hk1
   ·rename_i fz e' n' es hob
    rcases hc with hc | ⟨hc,_⟩
    ·cases hc
    ·obtain⟨hv,e1,e2⟩:=hR.objs key _ hob
     simp only[RdC] at hc
     rw[hc] at e1
     cases e1
     unfold lenL at hk1
     obtain⟨_,g,es',clock,rfl,hg,he,_⟩:=e2
     exact⟨_,_,hmap hg,by rw[he.1];exact .int .i64 _,hk1⟩
   ·cases hk1
  ·cases hk1
 ·cases hk
theorem G0:∀{l:List D} {vs:List Value} {caps:List (Nat×Nat)},l.length=vs.length→(∀(i:Nat) d v,l[i]?=some d→vs[i]?=some v→RdD w X ρ d v)→GZ l=some caps →
 vs.length=caps.length∧∀(i:Nat) p v,caps[i]?=some p→vs[i]?=some v→∃h,ρ p.1=some h∧KJ h p.2 v
 | [],vs,caps,hl,_,hc=>by
  simp only[GZ,Option.some.injEq] at hc
  subst hc
  exact⟨hl.symm,fun i p v h1 _=>by simp at h1⟩
 | d::l,vs,caps,hl,hr,hc=>by
  cases vs with
  | nil=>simp at hl
  | cons v vs=>
   unfold GZ at hc
   split at hc
   ·rename_i heq;cases heq
   ·rename_i k j l' heq
    cases heq
    cases hcl:GZ l with
    | none=>simp[hcl] at hc
    | some caps'=>
     simp only[hcl,Option.map_some,Option.some.injEq] at hc
     subst hc
     obtain⟨e1,e2⟩:=G0 (l:=l) (vs:=vs) (by simpa using hl) (fun i d v h1 h2=>hr (i+1) d v (by simpa using h1) (by simpa using h2)) hcl
     refine⟨by simp[e1],fun i p v' h1 h2=>?_⟩
     cases i with
     | zero=>
      simp at h1 h2
      subst h1;subst h2
      rcases hr 0 _ _ rfl rfl with hh | ⟨hh,_⟩
      ·cases hh
      ·exact hh
     | succ i=>exact e2 i p v' (by simpa using h1) (by simpa using h2)
   ·cases hc
theorem P8{fn:Fn}{first captured:List D}{vf vc:Array Value}{k:D→Option R}(hf:first.length=vf.toList.length)(hl:captured.length=vc.toList.length)
 (hr:∀(i:Nat) d v,captured[i]?=some d→vc.toList[i]?=some v→RdD w X ρ d v) (hk:pN fn first captured k=some r):
 ∃y d,(Instr.makeFunc fn vf vc).run P w=.ok y w∧RdD w X ρ d y∧k d=some r:=by
 unfold pN at hk
 split at hk
 ·rename_i f
  have hvf:vf=#[]:=by
   have:vf.toList=[]:=List.eq_nil_of_length_eq_zero hf.symm
   exact Array.toList_eq_nil_iff.1 this
  subst hvf
  split at hk
  ·rename_i hc
   obtain⟨e1,_⟩:=G0 hl hr hc
   have hvc:vc=#[]:=Array.toList_eq_nil_iff.1 (List.eq_nil_of_length_eq_zero e1)
   subst hvc
   exact⟨_,_,rfl,.val rfl,hk⟩
  ·rename_i caps _ hc
   obtain⟨e1,e2⟩:=G0 hl hr hc
   refine⟨_,_,rfl,.one (c:=.fn f caps) ⟨vc.toList,by simp,e1,e2⟩ rfl,hk⟩
  ·cases hk
 ·cases hk
end
theorem OV{α β:Type}{f:α→Option β}:∀{l:List α} {m:List β},l.mapM f=some m→m.length=l.length∧∀(i:Nat) a,l[i]?=some a→∃b,m[i]?=some b∧f a=some b
 | [],m,h=>by simp at h;subst h;simp
 | a::l,m,h=>by
  rw[List.mapM_cons] at h
  cases hf:f a with
  | none=>simp[hf] at h
  | some b=>
   cases hl:l.mapM f with
   | none=>simp[hf,hl] at h
   | some bs=>
    simp only[hf,hl,Option.bind_eq_bind,Option.bind_some,Option.pure_def,Option.some.injEq] at h
    subst h
    obtain⟨e1,e2⟩:=OV hl
    refine⟨by simp[e1],fun i a' hi=>?_⟩
    cases i with
    | zero=>simp at hi;subst hi;exact⟨b,rfl,hf⟩
    | succ i=>exact e2 i a' (by simpa using hi)
theorem Bz(bs:List UInt8):∀(acc:List UInt8),(bs.foldl (fun(r:ByteArray) b=>r.push b) ⟨acc.toArray⟩)=⟨(acc++bs).toArray⟩:=by
 induction bs with
 | nil=>intro acc;simp
 | cons b bs ih=>
  intro acc
  rw[List.foldl_cons]
  have:(⟨acc.toArray⟩:ByteArray).push b=⟨(acc++[b]).toArray⟩:=by simp[ByteArray.push]
  rw[this,ih]
  simp
section
variable {R:Type} {P:Program} {w0 w w':World} {F Xc X:Nat→Prop} {ρ0:Base} {ρ:fN} {st:St} {a:Act} {r:R}
theorem SR{src dst:TypeId}{x:D}{v:Value}{k:D→Option R}(hR:Rel w0 F Xc ρ0 ρ st a w)(h:RdD w (XB st.objs ρ Xc) ρ x v)(hk:vZ P st src dst x k=some r):
 ∃y d,(convert src dst v).run P w=.ok y w∧RdD w (XB st.objs ρ Xc) ρ d y∧k d=some r:=by
 unfold vZ at hk
 split at hk
 ·rename_i ks kd hs hd
  obtain⟨k',n,rfl,hk1⟩:=gT h hk
  refine⟨.int kd (kd.wrap n),_,?_,.int kd _,by unfold wr at hk1;exact hk1⟩
  unfold convert
  simp only[Sem.run_bind,run_underlying hs,run_underlying hd,Result.andThen_ok]
  rfl
 ·rename_i hs hd
  obtain⟨s,rfl,hk1⟩:=pJ h hk
  refine⟨.string s,_,?_,.str s,hk1⟩
  unfold convert
  simp only[Sem.run_bind,run_underlying hs,run_underlying hd,Result.andThen_ok]
  rfl
 ·rename_i e hs hd
  split at hk
  case h_2=>cases hk
  rename_i he
  obtain⟨c,rfl,hc,hk1⟩:=jJ h hk
  clear hk
  obtain⟨l,hk2,hu,ys,hys,hy⟩:=B1 hR hc hk1
  obtain⟨s,hst,hk3⟩:=aC hk2
  clear hk1 hk2
  unfold strOf at hst
  cases hm:l.mapM T.byte? with
  | none=>simp[hm] at hst
  | some bs=>
   simp only[hm,Option.map_some,Option.some.injEq] at hst
   subst hst
   obtain⟨m1,m2⟩:=OV hm
   have hconv:∀(ad:Option Addr) (p q:Nat),(convert src dst (.slice ad p q)).run P w=(Conv.bytesToString (.slice ad p q)).run P w:=by
    intro ad p q
    unfold convert
    simp only[Sem.run_bind,run_underlying hs,run_underlying hd,Result.andThen_ok,run_underlying he]
   have hflat:flat l=l:=KO fun t ht=>by
    obtain⟨i,hi,rfl⟩:=List.getElem_of_mem ht
    obtain⟨b,_,hb⟩:=m2 i _ (List.getElem?_eq_getElem hi)
    unfold T.byte? at hb
    split at hb
    ·rename_i heq;rw[heq];rfl
    ·cases hb
   rw[hflat] at hys
   rcases hy with⟨q,rfl,rfl⟩ | ⟨ad,q,rfl,hq,hcell⟩
   ·refine⟨.string .empty,_,by rw[hconv];rfl,.str _,?_⟩
    have:bs=[]:=List.eq_nil_of_length_eq_zero (by simpa using m1)
    subst this
    exact hk3
   ·obtain⟨ns,hns,hnb⟩:∃ns:List Int,ys=ns.map (Value.int .u8)∧ns.map (fun n=>UInt8.ofNat n.toNat)=bs:=by
     refine⟨ys.map intOf,?_,?_⟩
     ·rw[List.map_map]
      apply List.ext_getElem?
      intro i
      rw[List.getElem?_map]
      cases hyi:ys[i]? with
      | none=>rfl
      | some y=>
       have hlt:i<l.length:=by rw[←hys.1];exact(List.getElem?_eq_some_iff.1 hyi).1
       obtain⟨b,_,hb⟩:=m2 i _ (List.getElem?_eq_getElem hlt)
       obtain⟨hr,_⟩:=hys.2 i _ y (List.getElem?_eq_getElem hlt) hyi
       unfold T.byte? at hb
       split at hb
       ·rename_i n heq
        rw[heq] at hr
        rw[hr.inv_v]
        rfl
       ·cases hb
     ·rw[List.map_map]
      apply List.ext_getElem?
      intro i
      rw[List.getElem?_map]
      cases hyi:ys[i]? with
      | none=>
       have:bs.length≤i:=by rw[m1,←hys.1];exact List.getElem?_eq_none_iff.1 hyi
       rw[List.getElem?_eq_none this];rfl
      | some y=>
       have hlt:i<l.length:=by rw[←hys.1];exact(List.getElem?_eq_some_iff.1 hyi).1
       obtain⟨b,hbi,hb⟩:=m2 i _ (List.getElem?_eq_getElem hlt)
       obtain⟨hr,_⟩:=hys.2 i _ y (List.getElem?_eq_getElem hlt) hyi
       unfold T.byte? at hb
       split at hb
       ·rename_i n heq
        rw[heq] at hr
        rw[hr.inv_v,hbi]
        simp only[Option.some.injEq] at hb
        simp[←hb,intOf]
       ·cases hb
    have hload:(loadCells ad l.length).run P w=.ok (ns.map (Value.int .u8)).toArray w:=by
     have:=run_loadCells_list (P:=P) w ad ys hcell
     rw[hys.1] at this
     rw[this,hns]
    refine⟨_,_,by rw[hconv];exact run_bytesToString w ad l.length q ns hload,.str _,?_⟩
    have hf:ns.foldl (fun r n=>r.push (UInt8.ofNat n.toNat)) ByteArray.empty=⟨bs.toArray⟩:=by
     have:=Bz (ns.map (fun n=>UInt8.ofNat n.toNat)) []
     rw[List.foldl_map,hnb,List.nil_append] at this
     exact this
    rw[hf]
    exact hk3
 ·cases hk
theorem G1{dst:Option Nat}{e:TypeId}{n:Nat}{l:List T}{cap:Nat}{cur:Array Value}{k:St→Nat→Option R}(h:Rel w0 F Xc ρ0 ρ st a w)(hn:0<n∧n<1000000000)(hu:Uni n l)
 (hc:l.length≤cap) (hm:cap≤maxLen) (hsz:cur.size=cap*n) (hl:RdT w (XB st.objs ρ Xc) (flat l) (cur.toList.take (l.length*n))) (hk:f6 st dst (.row false e n l) k=some r):
 ∃ρ' st' key,Rel w0 F Xc ρ0 ρ' st' a (w.alloc (.cells cur e))∧RdD (w.alloc (.cells cur e)) (XB st'.objs ρ' Xc) ρ' (.s (.c (.row key))) (.slice (some ⟨w.heap.size,0,none⟩) l.length cap)∧k st' key=some r:=by
 obtain⟨d,_,hf,hk1⟩:=r8 hk
 have hnone:ρ (st.np+d)=none:=h.objs _ _ hf
 refine⟨_,_,_,h.new (hv:=.slice (some ⟨w.heap.size,0,none⟩) l.length cap) hf (Stp.alloc (fun _=>False) w (.cells cur e)) (fun b hb=>by simp only[blk] at hb;split at hb <;> simp only[Option.some.injEq,reduceCtorEq] at hb;omega)
  (fun X' hX=>?_) (Nat.le_add_right _ _) (by simp),.one (c:=.row (st.np+d)) (by simp[RdC,upd]) rfl,hk1⟩
 have hm':l.length*n≤cap*n:=Nat.mul_le_mul_right _ hc
 exact⟨hn,hu,⟨cur.toList.take (l.length*n),rowAt.of_own (b:=0) ⟨by rw[List.length_take,show cur.toList.length=cap*n from hsz];omega,.inr ⟨w.heap.size,cap,cur,rfl,Nat.zero_le _,heap_alloc_new w _,hc,hm,hsz,rfl⟩⟩,
  hl.step (Stp.alloc (fun _=>False) _ _) (fun _ hb=>False.elim hb) hX⟩,fun hc=>by cases hc⟩
theorem pP:∀(c n:Nat) (l:List T),(mT c n l).length=c
 | 0,_,_=>rfl
 | c+1,n,l=>by simp[mT,pP c n]
theorem B2:∀(c n:Nat) (l:List T),l.length=c*n→0<n→(∀t∈l,∀m,t≠.agg m)→Uni n (mT c n l)∧flat (mT c n l)=l
 | 0,n,l,h,_,_=>by
  have:l=[]:=List.eq_nil_of_length_eq_zero (by simpa using h)
  subst this
  exact⟨.nil n,rfl⟩
 | c+1,n,l,h,hn,ha=>by
  rw[Nat.add_mul,Nat.one_mul] at h
  obtain⟨e1,e2⟩:=B2 c n (l.drop n) (by simp;omega) hn (fun t ht=>ha t (List.mem_of_mem_drop ht))
  have hc:=GW (n:=n) (ts:=l.take n) (by simp;omega) (fun t ht=>ha t (List.mem_of_mem_take ht))
  refine⟨fun t ht=>?_,?_⟩
  ·simp only[mT,List.mem_cons] at ht
   rcases ht with rfl | ht
   ·rw[hc];simp;omega
   ·exact e1 t ht
  ·simp only[mT,gS,hc,e2,List.take_append_drop]
theorem qH{α:Type}(c:Nat)(l:List α):((List.range c).flatMap fun _=>l).length=c*l.length:=by
 induction c with
 | zero=>simp
 | succ c ih=>rw[List.range_succ,List.flatMap_append,List.length_append,ih];simp[Nat.add_mul]
theorem nX{α:Type}(c:Nat)(l:List α)(i:Nat)(hi:i<c*l.length):((List.range c).flatMap fun _=>l)[i]?=l[i%l.length]?:=by
 induction c with
 | zero=>simp at hi
 | succ c ih=>
  rw[List.range_succ,List.flatMap_append,List.getElem?_append,qH]
  split
  ·exact ih (by assumption)
  ·rename_i hlt
   rw[Nat.add_mul,Nat.one_mul] at hi
   have:i%l.length=i-c*l.length:=by
    have h1:i=(i-c*l.length)+l.length*c:=by have:=Nat.mul_comm c l.length;omega
    conv=>lhs;rw[h1]
    rw[Nat.add_mul_mod_self_left,Nat.mod_eq_of_lt (by omega)]
   simp[this]
theorem Ca(c:Nat)(x:T):flat (List.replicate c x)=(List.range c).flatMap fun _=>x.cells:=by
 induction c with
 | zero=>rfl
 | succ c ih=>rw[List.replicate_succ',kS,ih,List.range_succ,List.flatMap_append];simp[flat]
theorem E4(z:Array Value)(n i:Nat)(hi:i<n)(hz:0<z.size):(madeCells z n).toList[i]?=z.toList[i%z.size]?:=by
 have hlt:i%z.size<z.size:=Nat.mod_lt _ hz
 unfold madeCells
 rw[Array.getElem?_toList,Array.getElem?_map,Array.getElem?_range,if_pos hi,Option.map_some,Array.getElem?_toList,getElem!_pos z _ hlt,Array.getElem?_eq_getElem hlt]
theorem Gp{z:Array Value}{ts:List T}{c m:Nat}(h:RdT w X ts z.toList)(hz:0<z.size)(hm:c*z.size≤m):RdT w X ((List.range c).flatMap fun _=>ts) ((madeCells z m).toList.take (c*z.size)):=by
 have hl:=h.1
 rw[Array.length_toList] at hl
 refine⟨by rw[List.length_take,Array.length_toList,size_madeCells,qH,←hl,Nat.min_eq_left hm],fun i t y h1 h2=>?_⟩
 rw[List.getElem?_take] at h2
 split at h2
 ·rename_i hi
  rw[E4 z m i (by omega) hz] at h2
  rw[nX c ts i (by rw[hl] at hi;exact hi),←hl] at h1
  exact h.2 _ t y h1 h2
 ·cases h2
theorem NI{dst:Option Nat}{t:TypeId}{l c:D}{vl vc:Value}{k:St→D→Option R}(h:Rel w0 F Xc ρ0 ρ st a w)(hl:RdD w (XB st.objs ρ Xc) ρ l vl)(hc:RdD w (XB st.objs ρ Xc) ρ c vc)
 (hk:kW P st dst t l c k=some r):
 ∃y w' ρ' st' d,(Instr.makeSlice t vl vc).run P w=.ok y w'∧Rel w0 F Xc ρ0 ρ' st' a w'∧RdD w' (XB st'.objs ρ' Xc) ρ' d y∧k st' d=some r:=by
 unfold kW at hk
 split at hk
 case h_2=>cases hk
 rename_i e ht
 split at hk
 case h_2=>cases hk
 rename_i i hi
 split at hk
 case h_2=>cases hk
 rename_i z hz
 split at hk
 case h_2=>cases hk
 rename_i cs hcs
 split at hk
 case h_2=>cases hk
 rename_i ts hts
 split at hk
 case isFalse=>cases hk
 rename_i hcond
 obtain⟨hlen,hpos⟩:=hcond
 obtain⟨k1,l,rfl,hk1⟩:=gT hl hk
 obtain⟨k2,c,rfl,hk2⟩:=gT hc hk1
 obtain⟨p,hp,hk3⟩:=aC hk2
 clear hk hk1 hk2
 unfold mkLen at hp
 split at hp
 case isFalse=>cases hp
 rename_i hcon
 obtain⟨c1,c2,c3,c4⟩:=hcon
 cases hp
 obtain⟨hz1,hz2⟩:=sP (w:=w) (X:=XB st.objs ρ Xc) (ρ:=ρ) hcs
 obtain⟨t1,t2,t3⟩:=KM hz1 hts
 have hmt:=GW (n:=i.size) (ts:=ts) hlen t3
 have hzl:z.cells.size=i.size:=by have:=t2.1;rw[Array.length_toList] at this;omega
 have hrun:=run_make (P:=P) w t e i z ht hi hz k1 k2 l c c1 c2 c3 (by simp only[maxLen] at c4;omega)
 simp only[repL] at hk3
 have hmul:l.toNat*i.size≤c.toNat*i.size:=Nat.mul_le_mul_right _ (by omega)
 obtain⟨ρ',st',key,hR,hd,hk4⟩:=G1 (cap:=c.toNat) (cur:=madeCells z.cells (c.toNat*i.size)) h hpos (fun t ht=>by rw[List.eq_of_mem_replicate ht,hmt,hlen]) (by simp;omega) (by omega) (size_madeCells _ _) (by
  rw[Ca,hmt,List.length_replicate,←hzl]
  exact Gp t2 (by omega) (by rw[hzl];exact hmul)) hk3
 rw[List.length_replicate] at hd
 exact⟨_,_,ρ',st',_,hrun,hR,hd,hk4⟩
theorem U8{dst:Option Nat}{t:TypeId}{l c:D}{vl vc:Value}{k:St→D→Option R}(h:Rel w0 F Xc ρ0 ρ st a w)(hl:RdD w (XB st.objs ρ Xc) ρ l vl)(hc:RdD w (XB st.objs ρ Xc) ρ c vc)
 (hk:uL P st dst t l c k=some r):
 ∃y w' ρ' st' d,(Instr.makeSlice t vl vc).run P w=.ok y w'∧Rel w0 F Xc ρ0 ρ' st' a w'∧RdD w' (XB st'.objs ρ' Xc) ρ' d y∧k st' d=some r:=by
 unfold uL at hk
 split at hk
 case h_2=>cases hk
 rename_i e ht
 split at hk
 case h_2=>cases hk
 rename_i i e2 hi he2
 split at hk
 case h_2=>cases hk
 rename_i n hz hn2
 split at hk
 case isFalse=>cases hk
 rename_i hcond
 obtain⟨⟨hsz,hesm⟩,hpos⟩:=hcond
 obtain⟨k1,l,rfl,hk1⟩:=gT hl hk
 obtain⟨k2,c,rfl,hk2⟩:=gT hc hk1
 obtain⟨p,hp,hk3⟩:=aC hk2
 clear hk hk1 hk2
 unfold mkLen at hp
 split at hp
 case isFalse=>cases hp
 rename_i hcon
 obtain⟨c1,c2,c3,c4⟩:=hcon
 cases hp
 have hrun:=run_make (P:=P) w t e i (.slice none 0 0) ht hi hz k1 k2 l c c1 c2 c3 (by simp only[maxLen] at c4;omega)
 simp only[repL] at hk3
 obtain⟨d,_,hf,hk4⟩:=r8 hk3
 rw[hsz,Nat.mul_one] at hrun
 have hone:(Value.slice none 0 0).cells=#[.slice none 0 0]:=rfl
 have hms:(madeCells #[Value.slice none 0 0] c.toNat).size=c.toNat:=size_madeCells _ _
 have hget:∀j,j<c.toNat→(madeCells #[Value.slice none 0 0] c.toNat).toList[j]?=some (.slice none 0 0):=fun j hj=>by
  rw[E4 _ _ _ hj (by decide)]
  have:j%(#[Value.slice none 0 0]:Array Value).size=0:=Nat.mod_one j
  rw[this];rfl
 have hlc:l.toNat≤c.toNat:=by omega
 have hcm:c.toNat≤maxLen:=by omega
 refine⟨_,_,_,_,_,hrun,h.newG (hv:=.tuple (.slice (some ⟨w.heap.size,0,none⟩) l.toNat c.toNat::List.replicate l.toNat (.slice none 0 0)).toArray) (o:=.rr none e e2 n (List.replicate l.toNat [])) hf
  (Stp.alloc (fun _=>False) w (.cells (madeCells #[.slice none 0 0] c.toNat) e)) (fun b hb=>?_) (fun X' hX=>?_) (Nat.le_add_right _ _) (by simp),.one (c:=.rk (st.np+d)) ⟨(.slice (some ⟨w.heap.size,0,none⟩) l.toNat c.toNat::List.replicate l.toNat (.slice none 0 0)).toArray,by simp[upd],rfl⟩ rfl,hk4⟩
 ·rcases hb with hb | ⟨vs,hvs,y,hy,hyb⟩
  ·cases hb
  ·cases hvs
   simp only[List.mem_cons] at hy
   rcases hy with rfl | hy
   ·simp only[blk] at hyb;split at hyb <;> simp only[Option.some.injEq,reduceCtorEq] at hyb;omega
   ·rw[List.eq_of_mem_replicate hy] at hyb;cases hyb
 ·have hnilb:∀(j:Nat) y b,(List.replicate l.toNat (Value.slice none 0 0))[j]?=some y→¬blk y=some b:=fun j y b hj hb=>by
   rw[List.eq_of_mem_replicate (List.mem_of_getElem? hj)] at hb;cases hb
  refine⟨hpos,.slice (some ⟨w.heap.size,0,none⟩) l.toNat c.toNat,List.replicate l.toNat (.slice none 0 0),(madeCells #[.slice none 0 0] c.toNat).toList.take (l.toNat*1),rfl,?_,by simp,fun j y z q1 q2=>?_,fun j m y q1 q2=>?_,fun j1 j2 y z b q1 q2 q3 q4=>?_⟩
  ·refine .inl ⟨hesm,?_⟩
   rw[List.length_replicate]
   exact rowAt.of_own (b:=0) ⟨by rw[List.length_take,Array.length_toList,hms];omega,.inr ⟨w.heap.size,c.toNat,_,rfl,Nat.zero_le _,heap_alloc_new w _,hlc,hcm,hms.trans (Nat.mul_one _).symm,rfl⟩⟩
  ·have hj:j<l.toNat:=by have:=(List.getElem?_eq_some_iff.1 q2).1;simpa using this
   rw[List.getElem?_take,if_pos (by omega),hget j (by omega)] at q1
   cases q1
   rw[List.getElem?_replicate,if_pos hj] at q2
   cases q2
   exact⟨rfl,fun _=>rfl⟩
  ·have e1:=List.eq_of_mem_replicate (List.mem_of_getElem? q1)
   have e3:=List.eq_of_mem_replicate (List.mem_of_getElem? q2)
   subst e1;subst e3
   rw[W9 hesm]
   exact⟨.nil n,[],rowAt.nil _ _ _,⟨rfl,fun i t y h1 _=>by simp[flat] at h1⟩⟩
  ·cases j1 with
   | succ j1=>exact(hnilb j1 y b (by simpa using q1) q3).elim
   | zero=>cases j2 with
    | succ j2=>exact(hnilb j2 z b (by simpa using q2) q4).elim
    | zero=>rfl
theorem I2{dst:Option Nat}{t:TypeId}{len:Nat}{parts:List (Nat×D)}{vparts:Array (Nat×Value)}{k:St→D→Option R}(h:Rel w0 F Xc ρ0 ρ st a w)(hlen:parts.length=vparts.toList.length)
 (hp:∀(i:Nat) p q,parts[i]?=some p→vparts.toList[i]?=some q→p.1=q.1∧RdD w (XB st.objs ρ Xc) ρ p.2 q.2) (hk:gY P st dst t len parts k=some r):
 ∃y w' ρ' st' d,(Instr.buildSlice t len vparts).run P w=.ok y w'∧Rel w0 F Xc ρ0 ρ' st' a w'∧RdD w' (XB st'.objs ρ' Xc) ρ' d y∧k st' d=some r:=by
 unfold gY at hk
 split at hk
 case h_2=>cases hk
 rename_i e ht
 split at hk
 case h_2=>cases hk
 rename_i i hi
 split at hk
 case h_2=>cases hk
 rename_i z hz
 split at hk
 case h_2=>cases hk
 rename_i cs hcs
 split at hk
 case isFalse=>cases hk
 rename_i hcond
 obtain⟨hcl,hpos,hlpos,hmax⟩:=hcond
 split at hk
 case h_2=>cases hk
 rename_i l hl
 split at hk
 case h_2=>cases hk
 rename_i q hfq
 obtain⟨objs',l'⟩:=q
 dsimp only at hk
 split at hk
 case h_2=>cases hk
 rename_i tys htys
 obtain⟨hz1,hz2⟩:=sP (w:=w) (X:=XB st.objs ρ Xc) (ρ:=ρ) hcs
 have hzl:z.cells.size=i.size:=by have:=hz1.1;rw[Array.length_toList] at this;omega
 have hinit:RdL w (XB st.objs ρ Xc) ρ ((List.range len).flatMap fun _=>cs) (madeCells z.cells (len*i.size)).toList:=by
  refine⟨by rw[Array.length_toList,size_madeCells,qH,hcl],fun j c y h1 h2=>?_⟩
  have hj:j<len*i.size:=by
   have:=(List.getElem?_eq_some_iff.1 h2).1
   rw[Array.length_toList,size_madeCells] at this;exact this
  rw[E4 z.cells _ j hj (by omega)] at h2
  rw[nX len cs j (by rw[hcl];exact hj),hcl,←hzl] at h1
  exact hz1.2 _ c y h1 h2
 obtain⟨ys',e1,e2⟩:=zM (fun q=>some (q*i.size,i.size)) parts vparts.toList _ _ l hinit hlen hp hl
 obtain⟨h,e2⟩:=EZ h e2 hfq
 obtain⟨ts,hk,t1,t2,t3⟩:=pM e2 hk
 have hsize:ys'.size=len*i.size:=by
  have hfill:∀(place:Nat→Option (Nat×Nat)) (vp:List (Nat×Value)) (ys zs:Array Value),Instr.fill place ys vp=some zs→zs.size=ys.size:=by
   intro place vp
   induction vp with
   | nil=>intro ys zs h;simp only[Instr.fill,Option.some.injEq] at h;rw[h]
   | cons p vp ih=>
    intro ys zs h
    obtain⟨pi,pv⟩:=p
    simp only[Instr.fill] at h
    split at h
    ·cases h
    ·rename_i off size hpl
     split at h
     ·cases h
     ·rename_i hcnd
      have:=ih _ _ h
      rw[this,←Array.foldl_toList]
      have hf:=EY pv.cells.toList 0 off ys (by
       simp only[ne_eq,Bool.or_eq_true,decide_eq_true_eq,not_or,Decidable.not_not] at hcnd
       rw[Array.length_toList];omega)
      rw[Array.toList_zipIdx]
      have hl':=congrArg List.length hf
      rw[Array.length_toList] at hl'
      rw[show (fun(cs:Array Value) (x:Value×Nat)=>match x with | (c,j)=>cs.setIfInBounds (off+j) c)=fun cs x=>cs.setIfInBounds (off+x.2) x.1 from rfl,hl']
      simp only[ne_eq,Bool.or_eq_true,decide_eq_true_eq,not_or,Decidable.not_not] at hcnd
      simp;omega
  rw[hfill _ _ _ _ e1,size_madeCells]
 have htl:ts.length=len*i.size:=by have:=t2.1;rw[Array.length_toList] at this;omega
 obtain⟨u1,u2⟩:=B2 len i.size ts htl hpos.1 t3
 have hlen':len≤len*i.size:=Nat.le_mul_of_pos_right _ hpos.1
 obtain⟨ρ',st',key,hR,hd,hk4⟩:=G1 (cap:=len) (cur:=ys') (e:=e) h hpos u1 (by rw[pP];exact Nat.le_refl _) (by simp only[maxLen];omega) hsize (by
  rw[u2,pP,List.take_of_length_le (by rw[Array.length_toList];omega)]
  exact t2) hk
 rw[pP] at hd
 refine⟨_,_,ρ',st',_,?_,hR,hd,hk4⟩
 unfold Instr.buildSlice
 have hne:len*i.size≠0:=by have:=Nat.mul_pos hlpos hpos.1;omega
 simp only[Sem.run_bind,run_underlying ht,Result.andThen_ok,bP (show pA P e=some i.size by simp[pA,hi])]
 rw[if_neg (by omega),if_neg hne]
 simp only[Sem.run_bind,d3 hi hz,Result.andThen_ok,Sem.run_pure]
 rw[show (Array.range (len*i.size)).map (fun x=>z.cells[x%z.cells.size]!)=madeCells z.cells (len*i.size) from rfl,e1]
 simp[newRow]
theorem Gq{t:TypeId}{len:Nat}{parts:List (Nat×D)}{vparts:Array (Nat×Value)}{k:D→Option R}(h:Rel w0 F Xc ρ0 ρ st a w)(hlen:parts.length=vparts.toList.length)
 (hp:∀(i:Nat) p q,parts[i]?=some p→vparts.toList[i]?=some q→p.1=q.1∧RdD w (XB st.objs ρ Xc) ρ p.2 q.2) (hk:ZI P t len parts k=some r):
 ∃y w' d,(Instr.buildSlice t len vparts).run P w=.ok y w'∧Stp (fun _=>False) w w'∧RdD w' (XB st.objs ρ Xc) ρ d y∧k d=some r:=by
 unfold ZI at hk
 split at hk
 case h_2=>cases hk
 rename_i e ht
 split at hk
 case h_2=>cases hk
 rename_i i hi
 split at hk
 case h_2=>cases hk
 rename_i z hz
 split at hk
 case h_2=>cases hk
 rename_i cs hcs
 split at hk
 case isFalse=>cases hk
 rename_i hcond
 obtain⟨hcl,hpos,hlpos,hmax⟩:=hcond
 split at hk
 case h_2=>cases hk
 rename_i l hl
 split at hk
 case h_2=>cases hk
 rename_i tys htys
 obtain⟨hz1,hz2⟩:=sP (w:=w) (X:=XB st.objs ρ Xc) (ρ:=ρ) hcs
 have hzl:z.cells.size=i.size:=by have:=hz1.1;rw[Array.length_toList] at this;omega
 have hinit:RdL w (XB st.objs ρ Xc) ρ ((List.range len).flatMap fun _=>cs) (madeCells z.cells (len*i.size)).toList:=by
  refine⟨by rw[Array.length_toList,size_madeCells,qH,hcl],fun j c y h1 h2=>?_⟩
  have hj:j<len*i.size:=by
   have:=(List.getElem?_eq_some_iff.1 h2).1
   rw[Array.length_toList,size_madeCells] at this;exact this
  rw[E4 z.cells _ j hj (by omega)] at h2
  rw[nX len cs j (by rw[hcl];exact hj),hcl,←hzl] at h1
  exact hz1.2 _ c y h1 h2
 obtain⟨ys',e1,e2⟩:=zM (fun q=>some (q*i.size,i.size)) parts vparts.toList _ _ l hinit hlen hp hl
 obtain⟨ts,hk,t1,t2,t3⟩:=pM e2 hk
 have hsize:ys'.size=len*i.size:=by
  have hfill:∀(place:Nat→Option (Nat×Nat)) (vp:List (Nat×Value)) (ys zs:Array Value),Instr.fill place ys vp=some zs→zs.size=ys.size:=by
   intro place vp
   induction vp with
   | nil=>intro ys zs h;simp only[Instr.fill,Option.some.injEq] at h;rw[h]
   | cons p vp ih=>
    intro ys zs h
    obtain⟨pi,pv⟩:=p
    simp only[Instr.fill] at h
    split at h
    ·cases h
    ·rename_i off size hpl
     split at h
     ·cases h
     ·rename_i hcnd
      have:=ih _ _ h
      rw[this,←Array.foldl_toList]
      have hf:=EY pv.cells.toList 0 off ys (by
       simp only[ne_eq,Bool.or_eq_true,decide_eq_true_eq,not_or,Decidable.not_not] at hcnd
       rw[Array.length_toList];omega)
      rw[Array.toList_zipIdx]
      have hl':=congrArg List.length hf
      rw[Array.length_toList] at hl'
      rw[show (fun(cs:Array Value) (x:Value×Nat)=>match x with | (c,j)=>cs.setIfInBounds (off+j) c)=fun cs x=>cs.setIfInBounds (off+x.2) x.1 from rfl,hl']
      simp only[ne_eq,Bool.or_eq_true,decide_eq_true_eq,not_or,Decidable.not_not] at hcnd
      simp;omega
  rw[hfill _ _ _ _ e1,size_madeCells]
 have htl:ts.length=len*i.size:=by have:=t2.1;rw[Array.length_toList] at this;omega
 obtain⟨u1,u2⟩:=B2 len i.size ts htl hpos.1 t3
 have hlen':len≤len*i.size:=Nat.le_mul_of_pos_right _ hpos.1
 have hcl':(mT len i.size ts).length=len:=pP _ _ _
 have hxb:¬XB st.objs ρ Xc w.heap.size:=fun hx=>by
  rcases hx with hx | hx
  ·exact Nat.lt_irrefl _ (h.lt hx)
  ·have h1:=h.xcl _ hx
   have h2:=h.frame.size
   omega
 have hs:Stp (fun _=>False) w (w.alloc (.cells ys' e)):=Stp.alloc _ _ _
 have hadd:∀j,(Addr.mk w.heap.size 0 none).add j=⟨w.heap.size,j,none⟩:=fun j=>by unfold Addr.add;split <;> simp_all
 have key:=Rd.sl (w:=w.alloc (.cells ys' e)) (X:=XB st.objs ρ Xc) i.size (mT len i.size ts) ⟨w.heap.size,0,none⟩ len ys'.toList hpos.2 (by omega) (by simp only[maxLen];omega) u1
  (by rw[u2,Array.length_toList];omega)
  (fun j y hj=>by
   have hjl:j<ts.length:=by have:=(List.getElem?_eq_some_iff.1 hj).1;have:=t2.1;omega
   refine⟨?_,hxb,(t2.2 j _ y (List.getElem?_eq_getElem hjl) hj).2⟩
   rw[hadd]
   unfold World.cell?
   rw[heap_alloc_new]
   simpa using hj)
  (fun j t y h1 h2=>by
   rw[u2] at h1
   exact(t2.2 j t y h1 h2).1.step hs (fun _ hb=>False.elim hb) fun b hb=>.inl hb)
 rw[hcl'] at key
 refine⟨_,_,_,?_,hs,RdD.one (c:=.t (.sl i.size (mT len i.size ts))) key rfl,hk⟩
 unfold Instr.buildSlice
 have hne:len*i.size≠0:=by have:=Nat.mul_pos hlpos hpos.1;omega
 simp only[Sem.run_bind,run_underlying ht,Result.andThen_ok,bP (show pA P e=some i.size by simp[pA,hi])]
 rw[if_neg (by omega),if_neg hne]
 simp only[Sem.run_bind,d3 hi hz,Result.andThen_ok,Sem.run_pure]
 rw[show (Array.range (len*i.size)).map (fun x=>z.cells[x%z.cells.size]!)=madeCells z.cells (len*i.size) from rfl,e1]
 simp[newRow]
theorem KQ{dst:Option Nat}{t:TypeId}{len:Nat}{parts:List (Nat×D)}{vparts:Array (Nat×Value)}{k:St→D→Option R}(h:Rel w0 F Xc ρ0 ρ st a w)(hlen:parts.length=vparts.toList.length)
 (hp:∀(i:Nat) p q,parts[i]?=some p→vparts.toList[i]?=some q→p.1=q.1∧RdD w (XB st.objs ρ Xc) ρ p.2 q.2) (hk:eV P st dst t len parts k=some r):
 ∃y w' ρ' st' d,(Instr.buildSlice t len vparts).run P w=.ok y w'∧Rel w0 F Xc ρ0 ρ' st' a w'∧RdD w' (XB st'.objs ρ' Xc) ρ' d y∧k st' d=some r:=by
 unfold eV at hk
 split at hk
 ·rename_i hc
  obtain⟨rfl,hpe⟩:=hc
  have hpe':parts=[]:=List.isEmpty_iff.1 hpe
  subst hpe'
  have hv:vparts=#[]:=Array.toList_eq_nil_iff.1 (List.eq_nil_of_length_eq_zero hlen.symm)
  subst hv
  split at hk
  case h_2=>cases hk
  rename_i e ht
  split at hk
  case h_2=>cases hk
  rename_i n hn
  split at hk
  case isFalse=>cases hk
  rename_i hpos
  obtain⟨ρ',st',key,hR,hd,hk4⟩:=G1 (cap:=0) (cur:=#[]) (e:=e) (l:=[]) h hpos (.nil n) (Nat.le_refl _) (Nat.zero_le _) (by simp) ⟨by simp[flat],fun i t y h1 _=>by simp[flat] at h1⟩ hk
  refine⟨_,_,ρ',st',_,?_,hR,hd,hk4⟩
  unfold Instr.buildSlice
  simp[run_underlying ht,bP hn,newRow,Instr.fill]
  rw[show (Array.range 0).map (fun _=>(default:Value))=#[] from Array.ext' (by simp[Array.toList_range])]
 ·exact I2 h hlen hp hk
end
structure Inl where
 go:{R:Type}→St→Option Nat→List D→(St→D→Option R)→Option R
structure Ext where
 go:{R:Type}→List D→(D→Option R)→Option R
structure Callee where
 rows:List (Option (TypeId×Nat)):=[]
 call:{R:Type}→List S1→List O→(List S1→List O→Option R)→Option R
 inl:Option Inl:=none
 ext:Option Ext:=none
 quiet:List Nat:=[]
 loose:List Nat:=[]
 /-- boxes to which boxes that are handed over point are handed over too -/
 deep:Bool:=false
def RdRes(w:World)(X:Nat→Prop)(ρ:fN)(rs:List S1)(v:Value):Prop:=match rs with
 | [s]=>RdS w X ρ s v
 | l=>∃vs:Array Value,v=.tuple vs∧RdSs w X ρ l vs.toList
def Mx(w:World)(Xc:Nat→Prop)(ρ:fN)(po:List O)(rs:List S1)(po':List O)(e:Ending)(w':World):Prop:=
 ∃v ρ',e=.returned v∧Stp (r6 po ρ) w w'∧(∀k,k<po.length→ρ' k=ρ k)∧po.length≤po'.length ∧
  (∀(k:Nat) o,po'[k]?=some o→Mp w' (XB po' ρ' Xc) ρ' k o)∧Oh po' ρ'∧(∀k b,Has po' ρ' k b→(∃k',Has po ρ k' b)∨w.heap.size≤b)∧RdRes w' (XB po' ρ' Xc) ρ' rs v
def OW(P:Program)(g:Nat)(k:IntKind):Prop:=∃t zero,g<P.globals.size∧((begin P (fun _ _=>0) default).world.heap[g]?).bind Obj.row?=some (zero,t)∧zero.size=1∧P.buildable t=true ∧
 P.cellTypes P.depth t=some [t]∧P.underlying t=some (.int k)
def Good(P:Program)(w:World)(F:Nat→Prop):Prop:=∀g k,OW P g k→¬F g∧∃m,w.cell? ⟨g,0,none⟩=some (.int k m)
theorem Good.call{P:Program}{w0 w:World}{F F':Nat→Prop}(hG:Good P w0 F)(hfr:Stp F w0 w)(h1:∀b,F' b→w0.heap.size≤b∨F b):Good P w F':=
 fun g k hg=>let ⟨a,m,hm⟩:=hG g k hg
  ⟨fun hb=>(h1 g hb).elim (fun hh=>Nat.lt_irrefl _ (Nat.lt_of_lt_of_le (World.block_lt_of_cell? w0 _ hm) hh)) a,m,hfr.cell hm a⟩
def Cb(P:Program)(f:FuncId)(args:List S1)(po:List O)(rs:List S1)(po':List O):Prop:=
 ∀(w:World) (Xc:Nat→Prop) (ρ:fN) (vals:List Value),(∀(k:Nat) o,po[k]?=some o→Mp w (XB po ρ Xc) ρ k o)→Oh po ρ→(∀b,Xc b→b<w.heap.size)→(∀b,r6 po ρ b→¬Xc b)→Good P w (r6 po ρ)→RdSs w (XB po ρ Xc) ρ args vals →
  Calls P f vals.toArray w (Mx w Xc ρ po rs po')
def Inl.OK(P:Program)(f:FuncId)(I:Inl):Prop:=
 ∀{R:Type} {w0 w:World} {F Xc:Nat→Prop} {ρ0:Base} {ρ:fN} {st:St} {a:Act} {r:R} (dst:Option Nat) (ds:List D) (vals:List Value) (k:St→D→Option R),Good P w0 F→Rel w0 F Xc ρ0 ρ st a w→ds.length=vals.length →
  (∀(i:Nat) d v,ds[i]?=some d→vals[i]?=some v→RdD w (XB st.objs ρ Xc) ρ d v)→I.go st dst ds k=some r →
  Calls P f vals.toArray w fun e w'=>∃v ρ' st' d,e=.returned v∧Rel w0 F Xc ρ0 ρ' st' a w'∧RdD w' (XB st'.objs ρ' Xc) ρ' d v∧k st' d=some r
def Callee.OK0(P:Program)(f:FuncId)(A:Callee):Prop:=
 ∀{R:Type} (args:List S1) (po:List O) (k:List S1→List O→Option R) (r:R),A.call args po k=some r→∃rs po',k rs po'=some r∧Cb P f args po rs po'
def Ext.OK(P:Program)(f:FuncId)(I:Ext):Prop:=
 ∀{R:Type} {w:World} {X:Nat→Prop} {ρ:fN} {r:R} (ds:List D) (vals:List Value) (k:D→Option R),ds.length=vals.length→(∀(i:Nat) d v,ds[i]?=some d→vals[i]?=some v→RdD w X ρ d v)→I.go ds k=some r →
  ∃y d,(callFunc f vals.toArray).run P w=.ok (.value y) w∧RdD w X ρ d y∧k d=some r
def Callee.OK(P:Program)(f:FuncId)(A:Callee):Prop:=A.OK0 P f∧(∀I,A.inl=some I→I.OK P f)∧∀I,A.ext=some I→I.OK P f
def fO(P:Program)(f:FuncId):Prop:=∃fn,P.funcs[f]?=some fn∧fn.body.isSome=true∧(fn.name == "runtime.NumGoroutine")=false
def GOK(P:Program)(Γ:FuncId→Option Callee):Prop:=∀f A,Γ f=some A→(A.ext=none→fO P f)∧A.OK P f
def UY:List D→Option (List S1)
 | []=>some []
 | .s s::l=>(UY l).map (s::·)
 | .tup _::_=>none
def S1.list:S1→List C
 | .c x=>[x]
 | .agg x=>x
def C.ks:C→List Nat
 | .box k _=>[k]
 | .fn _ caps=>caps.map (·.1)
 | _=>[]
def Gf:List Nat→List Nat→List Nat
 | acc,[]=>acc.reverse
 | acc,k::l=>if acc.contains k then Gf acc l else Gf (k::acc) l
def IA(l:List S1):List Nat:=Gf [] (l.flatMap fun s=>s.list.flatMap C.ks)
def Ko:Option O→List Nat
 | some (.box l)=>l.flatMap C.ks
 | _=>[]
def Kq(objs:List O)(ks:List Nat):List Nat:=ks.flatMap fun k=>Ko objs[k]?
def l6(deep:Bool)(objs:List O)(l:List S1):List Nat:=bif deep then Gf [] (IA l++Kq objs (IA l)) else IA l
def DT(ks:List Nat)(k:Nat):Option Nat:=ks.idxOf? k
def yB(st:St)(ks:List Nat):C→Option C
 | .t x=>some (.t x)
 | .row key=>match st.objs[key]? with
  | some (.row _ _ n es)=>some (.t (.sl n es))
  | some (.mp _ _ n es)=>some (.t (.sl n es))
  | _=>none
 | .box k j=>(DT ks k).map fun i=>.box i j
 | .fn f caps=>(kE (caps.map fun p=>(DT ks p.1).map fun i=>(i,p.2))).map (.fn f)
 | .self t=>some (.self t)
 | .cut key n lo len _=>match st.objs[key]? with
  | some (.row _ _ n' es)=>if n'=n then some (.t (.sl n (iR es lo len))) else none
  | _=>none
 | .top=>some .top
 | _=>none
def pQ:C→Bool
 | .t _=>true
 | _=>false
def zU:C→Bool
 | .t (.v _)=>true
 | _=>false
def P9:List S1→D
 | [s]=>.s s
 | l=>.tup l
def yC(st:St)(m:TypeId×Nat):C→Option (Option Nat×O)
 | .row key=>match st.objs[key]? with
  | some (.row false e n l)=>if e=m.1∧n=m.2 then some (some key,.row false e n l) else none
  | some (.mp false e n l)=>if e=m.1∧n=m.2 then some (some key,.mp false e n l) else none
  | _=>none
 | .t (.v (.slice none 0 0))=>if 0<m.2∧m.2<1000000000 then some (none,.row false m.1 m.2 []) else none
 | _=>none
def iS(st:St)(ks:List Nat):Nat→List (Option (TypeId×Nat))→List C→Option (List C×List (Option Nat×O))
 | _,_,[]=>some ([],[])
 | j,ms,c::cs=>match ms.headD none with
  | some m=>match yC st m c,iS st ks (j+1) ms.tail cs with
   | some p,some q=>some (.row j::q.1,p::q.2)
   | _,_=>none
  | none=>match yB st ks c,iS st ks j ms.tail cs with
   | some c',some q=>some (c'::q.1,q.2)
   | _,_=>none
def eM:List (Option (TypeId×Nat))→List C→List Nat
 | _,[]=>[]
 | ms,c::cs=>match ms.headD none with
  | some _=>eM ms.tail cs
  | none=>C.rs c++eM ms.tail cs
def sA:List S1→List C→List S1
 | [],_=>[]
 | .c _::l,cs=>.c (cs.headD .top)::sA l cs.tail
 | .agg a::l,cs=>.agg (cs.take a.length)::sA l (cs.drop a.length)
def d5:List (List C)→List C→List O
 | [],_=>[]
 | a::l,cs=>.box (cs.take a.length)::d5 l (cs.drop a.length)
def qS(objs:List O)(k:Nat):Option (List C):=match objs[k]? with
 | some (.box l)=>some l
 | _=>none
def Gr(km:List (Option Nat))(p:Nat×Nat):Option (Nat×Nat):=match km[p.1]? with
 | some (some k)=>some (k,p.2)
 | _=>none
def sU(km:List (Option Nat)):C→Option C
 | .t x=>some (.t x)
 | .box i j=>match km[i]? with
  | some (some k)=>some (.box k j)
  | _=>none
 | .row i=>match km[i]? with
  | some (some k)=>some (.row k)
  | some none=>some (.t (.v (.slice none 0 0)))
  | none=>none
 | .fn f caps=>(kE (caps.map (Gr km))).map (.fn f)
 | .self t=>some (.self t)
 | .top=>some .top
 | _=>none
def E5(km:List (Option Nat)):S1→Option S1
 | .c c=>(sU km c).map .c
 | .agg l=>(kE (l.map (sU km))).map .agg
def zV(km:List (Option Nat)):O→Option O
 | .box l=>(kE (l.map (sU km))).map .box
 | .row fz e n l=>some (.row fz e n l)
 | .mp fz e n l=>some (.mp fz e n l)
 | .dead=>some .dead
 | .fbox _=>none
 | .rr _ _ _ _ _=>none
 | .itr _ _ _ _=>none
 | .fwd _=>none
 | .fresh=>none
def xH(objs:List O):List (Option Nat)→List O→List O
 | some k::km,o::os=>xH (objs.set k o) km os
 | none::km,_::os=>xH objs km os
 | _,_=>objs
def rN(st:St)(dst:Option Nat)(cnt:Nat):Option (List Nat):=match cnt,dst with
 | 0,_=>some []
 | n+1,some d=>let l:=(([0,1,2,3,4,5].map fun j=>st.np+(j*st.env.length+d)).filter fun i=>gM st.objs[i]?).take (n+1)
  if l.length=n+1 then some l else
   let l2:=((List.range st.objs.length).filter fun i=>decide (st.np+st.env.length≤i)&&gM st.objs[i]?).take (n+1)
   if l2.length=n+1 then some l2 else none
 | _,none=>none
section
variable {R:Type}
def rO(A:Callee)(st:St)(dst:Option Nat)(ds:List D)(k:St→D→Option R):Option R:=
 match UY ds with
 | none=>none
 | some ss=>match kE ((l6 A.deep st.objs ss).map (qS st.objs)) with
  | none=>none
  | some bl=>match iS st (l6 A.deep st.objs ss) (l6 A.deep st.objs ss).length A.rows (ss.flatMap S1.list++bl.flatten) with
   | none=>none
   | some (cs,rws)=>
    let rk:=rws.filterMap (·.1)
    let tk:=eM A.rows (ss.flatMap S1.list++bl.flatten)
    let po:=d5 bl (cs.drop (ss.flatMap S1.list).length)++rws.map (·.2)
    if decide rk.Nodup&&rk.all (fun z=>!tk.contains z) then
     A.call (sA ss cs) po fun rs po'=>
      if po.isEmpty&&po'.isEmpty&&rs.all (fun s=>s.list.all zU) then k st (P9 rs)
      else match rN { st with objs:=freezeL st.objs tk } dst (po'.length-po.length) with
       | none=>none
       | some nk=>
        let km:=(l6 A.deep st.objs ss).map some++rws.map (·.1)++nk.map some
        if decide nk.Nodup&&decide (po.length≤po'.length) then match kE (po'.map (zV km)),kE (rs.map (E5 km)) with
         | some po2,some rs'=>k { st with objs:=xH (freezeL st.objs tk) km po2 } (P9 rs')
         | _,_=>none
        else none
    else none
def pG(A:Callee)(st:St)(dst:Option Nat)(ds:List D)(k:St→D→Option R):Option R:=match A.inl with
 | some I=>I.go st dst ds k
 | none=>rO A st dst ds k
end
theorem DU:∀{l:List D} {m:List S1},UY l=some m→l=m.map .s
 | [],m,h=>by simp only[UY,Option.some.injEq] at h;subst h;rfl
 | .s s::l,m,h=>by
  simp only[UY] at h
  cases hs:UY l with
  | none=>simp[hs] at h
  | some q=>
   simp only[hs,Option.map_some,Option.some.injEq] at h
   subst h
   rw[DU hs];rfl
 | .tup _::l,m,h=>by simp[UY] at h
theorem QA:∀(l acc:List Nat),acc.Nodup→(Gf acc l).Nodup
 | [],acc,h=>by simp only[Gf];exact List.pairwise_reverse.2 (h.imp fun hab=>Ne.symm hab)
 | k::l,acc,h=>by
  simp only[Gf]
  split
  ·exact QA l acc h
  ·rename_i hc
   refine QA l (k::acc) (List.nodup_cons.2 ⟨fun hm=>hc (by simpa using hm),h⟩)
theorem SS(l:List S1):(IA l).Nodup:=QA _ _ List.nodup_nil
theorem ST(deep:Bool)(objs:List O)(l:List S1):(l6 deep objs l).Nodup:=by
 cases deep
 ·exact SS l
 ·exact QA _ _ List.nodup_nil
section
variable {P:Program} {w0 w w':World} {F Xc X X':Nat→Prop} {ρ0:Base} {ρ ρ':fN} {st:St} {a:Act}
theorem kX:∀(rows:List Nat) (objs:List O) (k:Nat) (l:List C),objs[k]?=some (.box l)→(freezeL objs rows)[k]?=some (.box l)
 | [],_,_,_,h=>h
 | q::rows,objs,k,l,h=>by
  simp only[freezeL_cons]
  split
  ·rename_i o ho
   refine kX rows _ k l ?_
   by_cases hq:q=k
   ·subst hq
    rw[h] at ho
    cases ho
    rw[List.getElem?_set_self (List.getElem?_eq_some_iff.1 h).1];rfl
   ·rw[List.getElem?_set_ne hq];exact h
  ·exact kX rows objs k l h
theorem U9(rows:List Nat):∀(objs:List O) (k:Nat),objs[k]?=some .fresh↔(freezeL objs rows)[k]?=some .fresh:=by
 induction rows with
 | nil=>intro objs k;exact Iff.rfl
 | cons q rows ih=>
  intro objs k
  simp only[freezeL_cons]
  split
  ·rename_i o ho
   rw[←ih]
   by_cases hq:q=k
   ·subst hq
    rw[List.getElem?_set_self (List.getElem?_eq_some_iff.1 ho).1,ho]
    cases o <;> simp[e8]
   ·rw[List.getElem?_set_ne hq]
  ·exact ih objs k
theorem ZN{ks:List Nat}(hn:ks.Nodup){i j k:Nat}(h1:ks[i]?=some k)(h2:ks[j]?=some k):i=j:=by
 obtain⟨hi,e1⟩:=List.getElem?_eq_some_iff.1 h1
 obtain⟨hj,e2⟩:=List.getElem?_eq_some_iff.1 h2
 rcases Nat.lt_trichotomy i j with hlt | heq | hlt
 ·exact(List.pairwise_iff_getElem.1 hn i j hi hj hlt (e1.trans e2.symm)).elim
 ·exact heq
 ·exact(List.pairwise_iff_getElem.1 hn j i hj hi hlt (e2.trans e1.symm)).elim
theorem OX{ks:List Nat}{k i:Nat}(h:DT ks k=some i):ks[i]?=some k:=by
 unfold DT at h
 rw[List.idxOf?_eq_some_iff] at h
 obtain⟨hi,h1,_⟩:=h
 rw[List.getElem?_eq_getElem hi,h1]
theorem RdL.cons{c:C}{l:List C}{y:Value}{ys:List Value}(h1:RdC1 w X ρ c y)(h2:RdL w X ρ l ys):RdL w X ρ (c::l) (y::ys):=
 ⟨by simp[h2.1],fun i c' y' e1 e2=>by
  cases i with
  | zero=>simp at e1 e2;subst e1;subst e2;exact h1
  | succ i=>exact h2.2 i c' y' (by simpa using e1) (by simpa using e2)⟩
theorem RdL.uncons{c:C}{l:List C}{y:Value}{ys:List Value}(h:RdL w X ρ (c::l) (y::ys)):RdC1 w X ρ c y∧RdL w X ρ l ys:=
 ⟨h.2 0 c y rfl rfl,by simpa using h.1,fun i c' y' e1 e2=>h.2 (i+1) c' y' (by simpa using e1) (by simpa using e2)⟩
theorem Cc{ks:List Nat}{c c':C}{y:Value}(h:Rel w0 F Xc ρ0 ρ st a w)(hX:∀b,X' b→XB st.objs ρ Xc b)(hks:∀k i,DT ks k=some i→∀v,ρ k=some v→ρ' i=some v)
 (hr:∀key∈C.rs c,∀b v,ρ key=some v→blk v=some b→¬X' b)
 (hc:RdC1 w (XB st.objs ρ Xc) ρ c y) (hp:yB st ks c=some c'):RdC1 w X' ρ' c' y:=by
 unfold yB at hp
 split at hp
 ·cases hp
  rcases hc with hc | ⟨hc,h1⟩
  ·cases hc
  ·exact .inr ⟨Rd.weak hc hX,h1⟩
 ·rename_i key
  split at hp
  ·rename_i fz e n es hob
   cases hp
   rcases hc with hc | ⟨hc,h1⟩
   ·cases hc
   ·obtain⟨v,e1,e2⟩:=h.objs key _ hob
    have hcc:ρ key=some y:=hc
    rw[hcc] at e1
    cases e1
    exact .inr ⟨vW e2 hX (fun b hb=>hr key (by simp[C.rs]) b y hcc hb),h1⟩
  ·rename_i fz e n es hob
   cases hp
   rcases hc with hc | ⟨hc,h1⟩
   ·cases hc
   ·obtain⟨v,e1,e2⟩:=h.objs key _ hob
    have hcc:ρ key=some y:=hc
    rw[hcc] at e1
    cases e1
    exact .inr ⟨P5 e2 hX (fun b hb=>hr key (by simp[C.rs]) b y hcc hb),h1⟩
  ·cases hp
 ·rename_i k j
  cases hi:DT ks k with
  | none=>simp[hi] at hp
  | some i=>
   simp only[hi,Option.map_some,Option.some.injEq] at hp
   subst hp
   rcases hc with hc | ⟨⟨v,e1,e2⟩,h1⟩
   ·cases hc
   ·exact .inr ⟨⟨v,hks k i hi v e1,e2⟩,h1⟩
 ·rename_i f caps
  cases hs:kE (caps.map fun p=>(DT ks p.1).map fun i=>(i,p.2)) with
  | none=>simp[hs] at hp
  | some caps'=>
   simp only[hs,Option.map_some,Option.some.injEq] at hp
   subst hp
   obtain⟨q1,q2⟩:=qR hs
   rcases hc with hc | ⟨⟨vs,e1,e2,e3⟩,h1⟩
   ·cases hc
   ·refine .inr ⟨⟨vs,e1,e2.trans q1.symm,fun i p v hp hv=>?_⟩,h1⟩
    obtain⟨p0,g1,g2⟩:=nD hs i p hp
    obtain⟨hh,f1,f2⟩:=e3 i p0 v g1 hv
    cases hix:DT ks p0.1 with
    | none=>simp[hix] at g2
    | some ix=>
     simp only[hix,Option.map_some,Option.some.injEq] at g2
     subst g2
     exact⟨hh,hks _ _ hix _ f1,f2⟩
 ·cases hp
  rcases hc with hc | ⟨hc,h1⟩
  ·cases hc
  ·exact .inr ⟨trivial,h1⟩
 ·rename_i key n lo len tg
  split at hp
  ·rename_i fz e n' es hob
   split at hp
   ·rename_i hn
    subst hn
    cases hp
    rcases hc with hc | ⟨⟨v,q1,q2⟩,h1⟩
    ·cases hc
    ·obtain⟨v',e1,e2⟩:=h.objs key _ hob
     rw[q1] at e1
     cases e1
     exact .inr ⟨KL e2 q2 hX (fun b hb=>hr key (by simp[C.rs]) b v q1 hb),h1⟩
   ·cases hp
  ·cases hp
 ·cases hp;exact .inl rfl
 ·cases hp
def My(st:St)(p:Option Nat×O):Prop:=∃e n l,(p.2=.row false e n l∨p.2=.mp false e n l)∧(∀key,p.1=some key→st.objs[key]?=some p.2)∧(p.1=none→p.2=.row false e n []∧(0<n∧n<1000000000))
theorem SU{m:TypeId×Nat}{c:C}{p:Option Nat×O}(h:yC st m c=some p):My st p∧((∃key,c=.row key∧p.1=some key)∨(c=.t (.v (.slice none 0 0))∧p.1=none)):=by
 unfold yC at h
 split at h
 ·rename_i key
  split at h
  ·rename_i e n l hob
   split at h
   ·cases h
    exact⟨⟨e,n,l,.inl rfl,fun k hk=>by cases hk;exact hob,fun hk=>by cases hk⟩,.inl ⟨key,rfl,rfl⟩⟩
   ·cases h
  ·rename_i e n l hob
   split at h
   ·cases h
    exact⟨⟨e,n,l,.inr rfl,fun k hk=>by cases hk;exact hob,fun hk=>by cases hk⟩,.inl ⟨key,rfl,rfl⟩⟩
   ·cases h
  ·cases h
 ·split at h
  ·rename_i hn
   cases h
   exact⟨⟨_,_,[],.inl rfl,(fun k hk=>(by cases hk)),fun _=>⟨rfl,hn⟩⟩,.inr ⟨rfl,rfl⟩⟩
  ·cases h
 ·cases h
theorem KR{ks:List Nat}(h:Rel w0 F Xc ρ0 ρ st a w)(hX:∀b,X' b→XB st.objs ρ Xc b)(hks:∀k i,DT ks k=some i→∀v,ρ k=some v→ρ' i=some v):
 ∀(cs:List C) (j:Nat) (ms:List (Option (TypeId×Nat))) (cs':List C) (rws:List (Option Nat×O)) (ys:List Value),iS st ks j ms cs=some (cs',rws)→(∀key∈eM ms cs,∀b v,ρ key=some v→blk v=some b→¬X' b) →
  (∀(q:Nat) p,rws[q]?=some p→ρ' (j+q)=match p.1 with | some key=>ρ key | none=>some (.slice none 0 0))→RdL w (XB st.objs ρ Xc) ρ cs ys→RdL w X' ρ' cs' ys
 | [],j,ms,cs',rws,ys,hh,_,_,hy=>by
  cases ms <;> (simp only[iS,Option.some.injEq,Prod.mk.injEq] at hh;obtain⟨rfl,_⟩:=hh;exact⟨hy.1,fun i c y h1 _=>by simp at h1⟩)
 | c::cs,j,ms,cs',rws,ys,hh,ht,hr,hy=>by
  cases ys with
  | nil=>simp[RdL] at hy
  | cons y ys=>
  obtain⟨hy1,hy2⟩:=hy.uncons
  simp only[iS] at hh
  simp only[eM] at ht
  split at hh
  ·rename_i m hm
   rw[hm] at ht
   split at hh
   ·rename_i p q hp hq
    cases hh
    obtain⟨_,hpc⟩:=SU hp
    have h0:=hr 0 p rfl
    refine .cons ?_ (KR h hX hks cs (j+1) ms.tail _ _ ys hq ht (fun i p' hi=>by have:=hr (i+1) p' (by simpa using hi);rw[←this];congr 1;omega) hy2)
    rcases hpc with⟨key,rfl,hk⟩ | ⟨rfl,hk⟩
    ·rw[hk] at h0
     rcases hy1 with hy1 | ⟨hy1,h1⟩
     ·cases hy1
     ·exact .inr ⟨h0.trans hy1,h1⟩
    ·rw[hk] at h0
     rcases hy1 with hy1 | ⟨hy1,h1⟩
     ·cases hy1
     ·have:=Rd.inv_v hy1
      subst this
      exact .inr ⟨h0,h1⟩
   ·cases hh
  ·rename_i hm
   rw[hm] at ht
   split at hh
   ·rename_i c' q hp hq
    cases hh
    exact .cons (Cc h hX hks (fun key hk=>ht key (List.mem_append.2 (.inl hk))) hy1 hp) (KR h hX hks cs j ms.tail _ _ ys hq (fun key hk=>ht key (List.mem_append.2 (.inr hk))) hr hy2)
   ·cases hh
theorem xI{ks:List Nat}:∀(cs:List C) (j:Nat) (ms:List (Option (TypeId×Nat))) (cs':List C) (rws:List (Option Nat×O)),iS st ks j ms cs=some (cs',rws)→∀p∈rws,My st p
 | [],j,ms,cs',rws,hh,p,hp=>by
  cases ms <;> (simp only[iS,Option.some.injEq,Prod.mk.injEq] at hh;obtain⟨_,rfl⟩:=hh;simp at hp)
 | c::cs,j,ms,cs',rws,hh,p,hp=>by
  simp only[iS] at hh
  split at hh
  ·split at hh
   ·rename_i p' q hp' hq
    cases hh
    rcases List.mem_cons.1 hp with rfl | hp
    ·exact(SU hp').1
    ·exact xI cs (j+1) ms.tail _ _ hq p hp
   ·cases hh
  ·split at hh
   ·rename_i c' q hp' hq
    cases hh
    exact xI cs j ms.tail _ _ hq p hp
   ·cases hh
theorem RdL.cut{X:Nat→Prop}{ρ:fN}{cs:List C}{ys zs:List Value}(h:RdL w X ρ cs (ys++zs)):RdL w X ρ (cs.take ys.length) ys∧RdL w X ρ (cs.drop ys.length) zs:=by
 have h1:=h.take ys.length
 have h2:=h.drop ys.length
 rw[List.take_left] at h1
 rw[List.drop_left] at h2
 exact⟨h1,h2⟩
theorem RdSs.cons{X:Nat→Prop}{ρ:fN}{s:S1}{l:List S1}{y:Value}{ys:List Value}(h1:RdS w X ρ s y)(h2:RdSs w X ρ l ys):RdSs w X ρ (s::l) (y::ys):=
 ⟨by simp[h2.1],fun i s' y' e1 e2=>by
  cases i with
  | zero=>simp at e1 e2;subst e1;subst e2;exact h1
  | succ i=>exact h2.2 i s' y' (by simpa using e1) (by simpa using e2)⟩
theorem RdSs.tail{X:Nat→Prop}{ρ:fN}{s:S1}{l:List S1}{y:Value}{ys:List Value}(h:RdSs w X ρ (s::l) (y::ys)):RdS w X ρ s y∧RdSs w X ρ l ys:=
 ⟨h.2 0 s y rfl rfl,by simpa using h.1,fun i s' y' e1 e2=>h.2 (i+1) s' y' (by simpa using e1) (by simpa using e2)⟩
theorem DV{ks:List Nat}:∀(cs:List C) (j:Nat) (ms:List (Option (TypeId×Nat))) (cs':List C) (rws:List (Option Nat×O)),iS st ks j ms cs=some (cs',rws)→∀key∈eM ms cs,∃o,st.objs[key]?=some o∧o.rowy=true
 | [],j,ms,cs',rws,hh,key,hp=>by cases ms <;> simp[eM] at hp
 | c::cs,j,ms,cs',rws,hh,key,hp=>by
  simp only[iS] at hh
  simp only[eM] at hp
  split at hh
  ·rename_i m hm
   rw[hm] at hp
   split at hh
   ·rename_i p' q hp' hq
    cases hh
    exact DV cs (j+1) ms.tail _ _ hq key hp
   ·cases hh
  ·rename_i hm
   rw[hm] at hp
   split at hh
   ·rename_i c' q hp' hq
    cases hh
    rcases List.mem_append.1 hp with hp | hp
    ·cases c with
     | row k=>
      simp only[C.rs,List.mem_singleton] at hp
      subst hp
      have hp2:(match st.objs[key]? with | some (.row _ _ n es)=>some (.t (.sl n es)) | some (.mp _ _ n es)=>some (.t (.sl n es)) | _=>none:Option C)=some c':=hp'
      split at hp2
      ·rename_i fz e n es hob;exact⟨_,hob,rfl⟩
      ·rename_i fz e n es hob;exact⟨_,hob,rfl⟩
      ·cases hp2
     | cut k m lo len tg=>
      simp only[C.rs,List.mem_singleton] at hp
      subst hp
      have hp2:(match st.objs[key]? with | some (.row _ _ n' es)=>if n'=m then some (.t (.sl m (iR es lo len))) else none | _=>none:Option C)=some c':=hp'
      split at hp2
      ·rename_i fz e n es hob;exact⟨_,hob,rfl⟩
      ·cases hp2
     | _=>simp[C.rs] at hp
    ·exact DV cs j ms.tail _ _ hq key hp
   ·cases hh
theorem DW{ks:List Nat}:∀(cs:List C) (j:Nat) (ms:List (Option (TypeId×Nat))) (cs':List C) (rws:List (Option Nat×O)),iS st ks j ms cs=some (cs',rws)→SelfLe cs cs'
 | [],j,ms,cs',rws,hh,i,t,hi=>by cases ms <;> (simp only[iS,Option.some.injEq,Prod.mk.injEq] at hh;obtain⟨rfl,_⟩:=hh;simp at hi)
 | c::cs,j,ms,cs',rws,hh,i,t,hi=>by
  simp only[iS] at hh
  split at hh
  ·split at hh
   ·rename_i p' q hp' hq
    cases hh
    cases i with
    | zero=>simp at hi
    | succ i=>simpa using DW cs (j+1) ms.tail _ _ hq i t (by simpa using hi)
   ·cases hh
  ·split at hh
   ·rename_i c' q hp' hq
    cases hh
    cases i with
    | zero=>
     simp only[List.getElem?_cons_zero,Option.some.injEq] at hi ⊢
     subst hi
     unfold yB at hp'
     split at hp'
     ·cases hp'
     ·split at hp'
      ·cases hp'
      ·cases hp'
      ·cases hp'
     ·rename_i k j'
      cases h9:DT ks k with
      | none=>simp[h9] at hp'
      | some v=>simp[h9] at hp'
     ·rename_i f caps
      cases h9:kE (caps.map fun p=>(DT ks p.1).map fun i=>(i,p.2)) with
      | none=>simp[h9] at hp'
      | some v=>simp[h9] at hp'
     ·cases hp';rfl
     ·split at hp'
      ·split at hp' <;> cases hp'
      ·cases hp'
     ·cases hp'
     ·cases hp'
    | succ i=>simpa using DW cs j ms.tail _ _ hq i t (by simpa using hi)
   ·cases hh
theorem CN:∀(bl:List (List C)) (cs:List C),SelfLe bl.flatten cs→∀(i:Nat) (l':List C),(d5 bl cs)[i]?=some (.box l')→SelfLe (bl.getD i []) l'
 | [],_,_,i,l',h=>by simp[d5] at h
 | a::bl,cs,hs,i,l',h=>by
  rw[List.flatten_cons] at hs
  cases i with
  | zero=>simp only[d5,List.getElem?_cons_zero,Option.some.injEq,O.box.injEq] at h;subst h;exact hs.left
  | succ i=>exact CN bl _ hs.right i l' (by simpa[d5] using h)
theorem VA{km:List (Option Nat)}{c:C}{t:TypeId}(h:sU km c=some (.self t)):c=.self t:=by
 unfold sU at h
 split at h
 ·cases h
 ·split at h <;> cases h
 ·split at h <;> cases h
 ·rename_i f caps
  cases h9:kE (caps.map (Gr km)) with
  | none=>simp[h9] at h
  | some v=>simp[h9] at h
 ·cases h;rfl
 ·cases h
 ·cases h
theorem VB{km:List (Option Nat)}{l l':List C}(hp:kE (l.map (sU km))=some l'):SelfLe l l':=fun i t hi=>by
 obtain⟨c,h1,h2⟩:=nD hp i _ hi
 rw[h1,VA h2]
theorem nY:∀(bl:List (List C)) (cs:List C),(d5 bl cs).length=bl.length
 | [],_=>rfl
 | l::bl,cs=>by simp[d5,nY bl]
theorem SV{X:Nat→Prop}{ρ:fN}:∀(ss:List S1) (vals:List Value),RdSs w X ρ ss vals →
 ∃ys,RdL w X ρ (ss.flatMap S1.list) ys∧∀(X':Nat→Prop) (ρ':fN) (cs':List C) (zs:List Value),RdL w X' ρ' cs' (ys++zs)→RdSs w X' ρ' (sA ss cs') vals
 | [],vals,h=>by
  have hv:vals=[]:=List.eq_nil_of_length_eq_zero h.1
  subst hv
  exact⟨[],⟨rfl,fun i c y h1 _=>by simp at h1⟩,fun X' ρ' cs' zs _=>⟨rfl,fun i s y h1 _=>by simp[sA] at h1⟩⟩
 | s::ss,vals,h=>by
  cases vals with
  | nil=>simp[RdSs] at h
  | cons v vals=>
  obtain⟨h1,h2⟩:=h.tail
  obtain⟨ys,q1,q2⟩:=SV ss vals h2
  cases s with
  | c c=>
   refine⟨v::ys,by rw[List.flatMap_cons];exact(RdL.one (c:=c) h1).append q1,fun X' ρ' cs' zs hcs=>?_⟩
   cases cs' with
   | nil=>simp[RdL] at hcs
   | cons c' cs'=>
    obtain⟨r1,r2⟩:=hcs.uncons
    exact .cons r1 (q2 X' ρ' cs' zs r2)
  | agg l=>
   obtain⟨cs,rfl,hl⟩:=h1
   refine⟨cs.toList++ys,by rw[List.flatMap_cons];exact hl.append q1,fun X' ρ' cs' zs hcs=>?_⟩
   rw[List.append_assoc] at hcs
   obtain⟨r1,r2⟩:=hcs.cut
   rw[hl.1] at r1 r2
   exact .cons ⟨cs,rfl,r1⟩ (q2 X' ρ' _ zs r2)
theorem SW{X:Nat→Prop}{ρ:fN}{Q:Nat→List Value→Prop}:∀(bl:List (List C)) (j:Nat),(∀(i:Nat) l,bl[i]?=some l→∃zs,RdL w X ρ l zs∧Q (j+i) zs) →
 ∃ys,RdL w X ρ bl.flatten ys∧∀(X':Nat→Prop) (ρ':fN) (cs':List C),RdL w X' ρ' cs' ys→(d5 bl cs').length=bl.length∧∀(i:Nat) o,(d5 bl cs')[i]?=some o→∃l' zs,o=.box l'∧Q (j+i) zs∧RdL w X' ρ' l' zs
 | [],j,h=>⟨[],⟨rfl,fun i c y h1 _=>by simp at h1⟩,fun X' ρ' cs' _=>⟨rfl,fun i o h=>by simp[d5] at h⟩⟩
 | l::bl,j,h=>by
  obtain⟨zs,hz1,hz2⟩:=h 0 l rfl
  obtain⟨ys,q1,q2⟩:=SW (Q:=Q) bl (j+1) (fun i l' hi=>by obtain⟨zs,e1,e2⟩:=h (i+1) l' (by simpa using hi);exact⟨zs,e1,by rw[show j+1+i=j+(i+1) by omega];exact e2⟩)
  refine⟨zs++ys,by rw[List.flatten_cons];exact hz1.append q1,fun X' ρ' cs' hcs=>?_⟩
  obtain⟨r1,r2⟩:=hcs.cut
  rw[hz1.1] at r1 r2
  obtain⟨p1,p2⟩:=q2 X' ρ' _ r2
  refine⟨by simp[d5,p1],fun i o ho=>?_⟩
  cases i with
  | zero=>simp only[d5,List.getElem?_cons_zero,Option.some.injEq] at ho;subst ho;exact⟨_,zs,rfl,hz2,r1⟩
  | succ i=>
   obtain⟨l',zs',e1,e2,e3⟩:=p2 i o (by simpa[d5] using ho)
   exact⟨l',zs',e1,by rw[show j+(i+1)=j+1+i by omega];exact e2,e3⟩
def Cd(km:List (Option Nat))(ρ' ρ'':fN):Prop:=∀(i:Nat) m,km[i]?=some m→∀v,ρ' i=some v→match m with | some k=>ρ'' k=some v | none=>v=.slice none 0 0
theorem SX{km:List (Option Nat)}{ρ'':fN}{c c':C}{y:Value}(hX:∀b,X' b→X b)(hρ:Cd km ρ' ρ'')(hc:RdC1 w X ρ' c y)(hp:sU km c=some c'):RdC1 w X' ρ'' c' y:=by
 unfold sU at hp
 split at hp
 ·cases hp
  rcases hc with hc | ⟨hc,h1⟩
  ·cases hc
  ·exact .inr ⟨Rd.weak hc hX,h1⟩
 ·rename_i i j
  split at hp
  ·rename_i k hk
   cases hp
   rcases hc with hc | ⟨⟨v,e1,e2⟩,h1⟩
   ·cases hc
   ·exact .inr ⟨⟨v,hρ i _ hk v e1,e2⟩,h1⟩
  ·cases hp
 ·rename_i i
  split at hp
  ·rename_i k hk
   cases hp
   rcases hc with hc | ⟨hc,h1⟩
   ·cases hc
   ·exact .inr ⟨hρ i _ hk y hc,h1⟩
  ·rename_i hk
   cases hp
   rcases hc with hc | ⟨hc,h1⟩
   ·cases hc
   ·have:=hρ i _ hk y hc
    simp only at this
    subst this
    exact .inr ⟨.v _,h1⟩
  ·cases hp
 ·rename_i f caps
  cases hs:kE (caps.map (Gr km)) with
  | none=>simp[hs] at hp
  | some caps'=>
   simp only[hs,Option.map_some,Option.some.injEq] at hp
   subst hp
   obtain⟨q1,q2⟩:=qR hs
   rcases hc with hc | ⟨⟨vs,e1,e2,e3⟩,h1⟩
   ·cases hc
   ·refine .inr ⟨⟨vs,e1,e2.trans q1.symm,fun i p v hp hv=>?_⟩,h1⟩
    obtain⟨p0,g1,g2⟩:=nD hs i p hp
    obtain⟨hh,f1,f2⟩:=e3 i p0 v g1 hv
    unfold Gr at g2
    split at g2
    ·rename_i k hk
     cases g2
     exact⟨hh,hρ _ _ hk hh f1,f2⟩
    ·cases g2
 ·cases hp
  rcases hc with hc | ⟨hc,h1⟩
  ·cases hc
  ·exact .inr ⟨trivial,h1⟩
 ·cases hp;exact .inl rfl
 ·cases hp
theorem SY{km:List (Option Nat)}{ρ'':fN}{l l':List C}{ys:List Value}(hX:∀b,X' b→X b)(hρ:Cd km ρ' ρ'')(hc:RdL w X ρ' l ys)(hp:kE (l.map (sU km))=some l'):RdL w X' ρ'' l' ys:=by
 obtain⟨q1,q2⟩:=qR hp
 refine⟨hc.1.trans q1.symm,fun i c y h1 h2=>?_⟩
 obtain⟨c0,g1,g2⟩:=nD hp i c h1
 exact SX hX hρ (hc.2 i c0 y g1 h2) g2
theorem SZ{km:List (Option Nat)}{ρ'':fN}{s s':S1}{y:Value}(hX:∀b,X' b→X b)(hρ:Cd km ρ' ρ'')(hc:RdS w X ρ' s y)(hp:E5 km s=some s'):RdS w X' ρ'' s' y:=by
 cases s with
 | c c=>
  simp only[E5] at hp
  cases hq:sU km c with
  | none=>simp[hq] at hp
  | some c'=>
   simp only[hq,Option.map_some,Option.some.injEq] at hp
   subst hp
   exact SX hX hρ hc hq
 | agg l=>
  simp only[E5] at hp
  cases hq:kE (l.map (sU km)) with
  | none=>simp[hq] at hp
  | some l'=>
   simp only[hq,Option.map_some,Option.some.injEq] at hp
   subst hp
   obtain⟨cs,rfl,hl⟩:=hc
   exact⟨cs,rfl,SY hX hρ hl hq⟩
theorem Kr{km:List (Option Nat)}{ρ'':fN}{rs rs':List S1}{v:Value}(hX:∀b,X' b→X b)(hρ:Cd km ρ' ρ'')(h:RdRes w X ρ' rs v)(hp:kE (rs.map (E5 km))=some rs'):
 RdD w X' ρ'' (P9 rs') v:=by
 obtain⟨q1,q2⟩:=qR hp
 have key:∀{vs:List Value},RdSs w X ρ' rs vs→RdSs w X' ρ'' rs' vs:=fun hl=>⟨hl.1.trans q1.symm,fun i s y h1 h2=>by
  obtain⟨s0,g1,g2⟩:=nD hp i s h1
  exact SZ hX hρ (hl.2 i s0 y g1 h2) g2⟩
 match rs,rs',q1 with
 | [s],[s'],_=>
  obtain⟨s0,g1,g2⟩:=nD hp 0 s' rfl
  simp at g1
  subst g1
  exact SZ hX hρ h g2
 | [],[],_=>obtain⟨vs,e,hl⟩:=h;exact⟨vs,e,key hl⟩
 | s1::s2::l,s1'::s2'::l',_=>obtain⟨vs,e,hl⟩:=h;exact⟨vs,e,key hl⟩
end
section
variable {R:Type} {P:Program} {w0 w:World} {F Xc:Nat→Prop} {ρ0:Base} {ρ:fN} {st:St} {a:Act} {r:R}
theorem XF{X X':Nat→Prop}{w w':World}{ρ' ρ'':fN}{s:S1}{y:Value}(h:RdS w X ρ' s y)(hs:s.list.all zU=true):RdS w' X' ρ'' s y:=by
 have key:∀(c:C) (y:Value),zU c=true→RdC1 w X ρ' c y→RdC1 w' X' ρ'' c y:=by
  intro c y hc hr
  unfold zU at hc
  split at hc
  ·rcases hr with hr | ⟨hr,h1⟩
   ·cases hr
   ·have:=Rd.inv_v hr
    subst this
    exact .inr ⟨.v _,h1⟩
  ·cases hc
 cases s with
 | c c=>exact key c y (by simpa[S1.list] using hs) h
 | agg l=>
  obtain⟨cs,e,hl⟩:=h
  exact⟨cs,e,hl.1,fun i c y h1 h2=>key c y (List.all_eq_true.1 hs c (List.mem_of_getElem? h1)) (hl.2 i c y h1 h2)⟩
theorem Ce{X X':Nat→Prop}{w w':World}{ρ' ρ'':fN}{rs:List S1}{v:Value}(h:RdRes w X ρ' rs v)(hs:rs.all (fun s=>s.list.all zU)=true):RdD w' X' ρ'' (P9 rs) v:=by
 have key:∀{vs:List Value},RdSs w X ρ' rs vs→RdSs w' X' ρ'' rs vs:=fun hl=>⟨hl.1,fun i s y h1 h2=>XF (hl.2 i s y h1 h2) (List.all_eq_true.1 hs s (List.mem_of_getElem? h1))⟩
 match rs with
 | [s]=>exact XF (show RdS w X ρ' s v from h) (by simpa using hs)
 | []=>obtain⟨vs,e1,hl⟩:=h;exact⟨vs,e1,key hl⟩
 | s1::s2::l=>obtain⟨vs,e1,hl⟩:=h;exact⟨vs,e1,key hl⟩
theorem IB:∀(rows:List Nat) (objs:List O),(freezeL objs rows).length=objs.length
 | [],_=>rfl
 | q::rows,objs=>by simp only[freezeL_cons];split <;> simp[IB rows]
theorem xJ:∀(rows:List Nat) (objs:List O) (j:Nat),objs[j]?=some .dead→(freezeL objs rows)[j]?=some .dead
 | [],_,_,h=>h
 | q::rows,objs,j,h=>by
  simp only[freezeL_cons]
  split
  ·rename_i o ho
   refine xJ rows _ j ?_
   by_cases hq:q=j
   ·subst hq;rw[h] at ho;cases ho;rw[List.getElem?_set_self (List.getElem?_eq_some_iff.1 h).1];rfl
   ·rw[List.getElem?_set_ne hq];exact h
  ·exact xJ rows objs j h
theorem xK:∀(rows:List Nat) (objs:List O) (j:Nat) (l:List C),objs[j]?=some (.fbox l)→(freezeL objs rows)[j]?=some (.fbox l)
 | [],_,_,_,h=>h
 | q::rows,objs,j,l,h=>by
  simp only[freezeL_cons]
  split
  ·rename_i o ho
   refine xK rows _ j l ?_
   by_cases hq:q=j
   ·subst hq;rw[h] at ho;cases ho;rw[List.getElem?_set_self (List.getElem?_eq_some_iff.1 h).1];rfl
   ·rw[List.getElem?_set_ne hq];exact h
  ·exact xK rows objs j l h
theorem DX:∀(rows:List Nat) (objs:List O) (j:Nat) (hole:Option Nat) (e e2:TypeId) (n:Nat) (l:List (List T)),objs[j]?=some (.rr hole e e2 n l)→(freezeL objs rows)[j]?=some (.rr hole e e2 n l)
 | [],_,_,_,_,_,_,_,h=>h
 | q::rows,objs,j,hole,e,e2,n,l,h=>by
  simp only[freezeL_cons]
  split
  ·rename_i o ho
   refine DX rows _ j hole e e2 n l ?_
   by_cases hq:q=j
   ·subst hq;rw[h] at ho;cases ho;rw[List.getElem?_set_self (List.getElem?_eq_some_iff.1 h).1];rfl
   ·rw[List.getElem?_set_ne hq];exact h
  ·exact DX rows objs j hole e e2 n l h
theorem zW:∀(rows:List Nat) (objs:List O) (j:Nat) (l:Nat),objs[j]?=some (.fwd l)→(freezeL objs rows)[j]?=some (.fwd l)
 | [],_,_,_,h=>h
 | q::rows,objs,j,l,h=>by
  simp only[freezeL_cons]
  split
  ·rename_i o ho
   refine zW rows _ j l ?_
   by_cases hq:q=j
   ·subst hq;rw[h] at ho;cases ho;rw[List.getElem?_set_self (List.getElem?_eq_some_iff.1 h).1];rfl
   ·rw[List.getElem?_set_ne hq];exact h
  ·exact zW rows objs j l h
theorem zX:∀(rows:List Nat) (objs:List O) (j:Nat) (cur:Option T) (e:TypeId) (n:Nat) (l:List T),objs[j]?=some (.itr cur e n l)→(freezeL objs rows)[j]?=some (.itr cur e n l)
 | [],_,_,_,_,_,_,h=>h
 | q::rows,objs,j,cur,e,n,l,h=>by
  simp only[freezeL_cons]
  split
  ·rename_i o ho
   refine zX rows _ j cur e n l ?_
   by_cases hq:q=j
   ·subst hq;rw[h] at ho;cases ho;rw[List.getElem?_set_self (List.getElem?_eq_some_iff.1 h).1];rfl
   ·rw[List.getElem?_set_ne hq];exact h
  ·exact zX rows objs j cur e n l h
theorem qI:∀(rows:List Nat) (objs:List O) (j:Nat),j∉rows→(freezeL objs rows)[j]?=objs[j]?
 | [],_,_,_=>rfl
 | q::rows,objs,j,h=>by
  simp only[List.mem_cons,not_or] at h
  simp only[freezeL_cons]
  split
  ·rw[qI rows _ j h.2,List.getElem?_set_ne (fun e=>h.1 e.symm)]
  ·exact qI rows objs j h.2
theorem S0{objs:List O}{rows:List Nat}{j b:Nat}(h:Has (freezeL objs rows) ρ j b):Has objs ρ j b:=by
 obtain⟨o,v,h1,h2,h3,h4⟩:=h
 have hlt:j<objs.length:=by rw[←IB rows];exact(List.getElem?_eq_some_iff.1 h1).1
 cases ho:objs[j]'hlt with
 | box l=>
  have ho':objs[j]?=some (.box l):=by rw[List.getElem?_eq_getElem hlt,ho]
  rw[kX _ _ _ _ ho'] at h1
  cases h1
  exact⟨_,v,ho',rfl,h3,h4⟩
 | row fz e n l=>
  have ho':objs[j]?=some (.row fz e n l):=by rw[List.getElem?_eq_getElem hlt,ho]
  obtain⟨fz',g1,g2⟩:=kV rows _ _ _ _ _ _ ho'
  rw[g1] at h1
  cases h1
  cases fz with
  | false=>exact⟨_,v,ho',rfl,h3,h4⟩
  | true=>rw[g2 (.inl rfl)] at h2;cases h2
 | mp fz e n l=>
  have ho':objs[j]?=some (.mp fz e n l):=by rw[List.getElem?_eq_getElem hlt,ho]
  obtain⟨fz',g1,g2⟩:=pL rows _ _ _ _ _ _ ho'
  rw[g1] at h1
  cases h1
  cases fz with
  | false=>exact⟨_,v,ho',rfl,h3,h4⟩
  | true=>rw[g2 (.inl rfl)] at h2;cases h2
 | fbox l=>
  have ho':objs[j]?=some (.fbox l):=by rw[List.getElem?_eq_getElem hlt,ho]
  rw[xK _ _ _ _ ho'] at h1
  cases h1;cases h2
 | rr hole e e2 n l=>
  have ho':objs[j]?=some (.rr hole e e2 n l):=by rw[List.getElem?_eq_getElem hlt,ho]
  rw[DX _ _ _ _ _ _ _ _ ho'] at h1
  cases h1
  exact⟨_,v,ho',rfl,h3,h4⟩
 | itr cur e n l=>
  have ho':objs[j]?=some (.itr cur e n l):=by rw[List.getElem?_eq_getElem hlt,ho]
  rw[zX _ _ _ _ _ _ _ ho'] at h1
  cases h1
  exact⟨_,v,ho',rfl,h3,h4⟩
 | fwd l=>
  have ho':objs[j]?=some (.fwd l):=by rw[List.getElem?_eq_getElem hlt,ho]
  rw[zW _ _ _ _ ho'] at h1
  cases h1;cases h2
 | dead=>
  have ho':objs[j]?=some .dead:=by rw[List.getElem?_eq_getElem hlt,ho]
  rw[xJ _ _ _ ho'] at h1
  cases h1;cases h2
 | fresh=>
  have ho':objs[j]?=some .fresh:=by rw[List.getElem?_eq_getElem hlt,ho]
  rw[(U9 _ _ _).1 ho'] at h1
  cases h1;cases h2
theorem mW:∀(km:List (Option Nat)) (po:List O) (objs:List O) (j:Nat),some j∉km→(xH objs km po)[j]?=objs[j]?
 | [],po,objs,j,_=>by cases po <;> rfl
 | some k::km,[],objs,j,_=>rfl
 | none::km,[],objs,j,_=>rfl
 | some k::km,o::po,objs,j,h=>by
  simp only[xH]
  rw[mW km po _ j (fun hm=>h (by simp[hm])),List.getElem?_set_ne (fun e=>h (by simp[e]))]
 | none::km,o::po,objs,j,h=>by
  simp only[xH]
  exact mW km po _ j (fun hm=>h (by simp[hm]))
theorem QB:∀(km:List (Option Nat)) (po:List O) (objs:List O) (i k:Nat) (o:O),(km.filterMap id).Nodup→km[i]?=some (some k)→po[i]?=some o→k<objs.length→(xH objs km po)[k]?=some o
 | [],po,objs,i,k,o,_,h,_,_=>by simp at h
 | m::km,[],objs,i,k,o,_,_,h,_=>by simp at h
 | none::km,o'::po,objs,i,k,o,hn,h1,h2,hl=>by
  simp only[xH]
  cases i with
  | zero=>simp at h1
  | succ i=>exact QB km po objs i k o (by simpa using hn) (by simpa using h1) (by simpa using h2) hl
 | some q::km,o'::po,objs,i,k,o,hn,h1,h2,hl=>by
  simp only[xH]
  simp only[List.filterMap_cons,id_eq] at hn
  obtain⟨hq,hn'⟩:=List.nodup_cons.1 hn
  cases i with
  | zero=>
   simp at h1 h2
   subst h1;subst h2
   rw[mW km po _ q (fun hm=>hq (List.mem_filterMap.2 ⟨some q,hm,rfl⟩)),List.getElem?_set_self hl]
  | succ i=>exact QB km po _ i k o hn' (by simpa using h1) (by simpa using h2) (by simpa using hl)
theorem Ks{km:List (Option Nat)}(hn:(km.filterMap id).Nodup){i j k:Nat}(h1:km[i]?=some (some k))(h2:km[j]?=some (some k)):i=j:=by
 induction km generalizing i j with
 | nil=>simp at h1
 | cons s rs ih=>
  have key:∀q,rs[q]?=some (some k)→s=some k→False:=fun q hq e=>by
   subst e
   simp only[List.filterMap_cons,id_eq] at hn
   exact(List.nodup_cons.1 hn).1 (List.mem_filterMap.2 ⟨some k,List.mem_of_getElem? hq,rfl⟩)
  have hnd:(rs.filterMap id).Nodup:=by
   cases s with
   | none=>simpa using hn
   | some v=>simp only[List.filterMap_cons,id_eq] at hn;exact(List.nodup_cons.1 hn).2
  cases i with
  | zero=>
   cases j with
   | zero=>rfl
   | succ j=>simp at h1 h2;exact(key j h2 h1).elim
  | succ i=>
   cases j with
   | zero=>simp at h1 h2;exact(key i h1 h2).elim
   | succ j=>simp at h1 h2;rw[ih hnd h1 h2]
theorem G2{st:St}{dst:Option Nat}{cnt:Nat}{nk:List Nat}(h:rN st dst cnt=some nk):nk.length=cnt∧∀k∈nk,st.objs[k]?=some .fresh∧st.np≤k:=by
 unfold rN at h
 split at h
 ·cases h;exact⟨rfl,by simp⟩
 ·rename_i n d
  dsimp only at h
  split at h
  ·rename_i hl
   cases h
   refine⟨hl,fun k hk=>?_⟩
   have hk1:=List.mem_of_mem_take hk
   obtain⟨hk2,hk3⟩:=List.mem_filter.1 hk1
   obtain⟨j,_,rfl⟩:=List.mem_map.1 hk2
   refine⟨?_,Nat.le_add_right _ _⟩
   unfold gM at hk3
   split at hk3
   ·rename_i ho;exact ho
   ·cases hk3
  ·split at h
   ·rename_i hl
    cases h
    refine⟨hl,fun k hk=>?_⟩
    have hk1:=List.mem_of_mem_take hk
    obtain⟨hk2,hk3⟩:=List.mem_filter.1 hk1
    simp only[Bool.and_eq_true,decide_eq_true_eq] at hk3
    refine⟨?_,Nat.le_trans (Nat.le_add_right _ _) hk3.1⟩
    have hk4:=hk3.2
    unfold gM at hk4
    split at hk4
    ·rename_i ho;exact ho
    ·cases hk4
   ·cases h
 ·cases h
theorem XG:∀l:List Nat,l.filterMap (id ∘ some)=l
 | []=>rfl
 | k::l=>by rw[List.filterMap_cons];simp only[Function.comp,id];exact congrArg _ (XG l)
theorem OY{ks:List Nat}{rws:List (Option Nat×O)}(h1:ks.Nodup)(h2:(rws.filterMap (·.1)).Nodup)(h3:∀key∈ks,key∈rws.filterMap (·.1)→False):((ks.map some++rws.map (·.1)).filterMap id).Nodup:=by
 rw[List.filterMap_append,List.filterMap_map,List.filterMap_map]
 have e1:ks.filterMap (id ∘ some)=ks:=by induction ks with | nil=>rfl | cons k l ih=>simp
 have e2:rws.filterMap (id ∘ (·.1))=rws.filterMap (·.1):=rfl
 rw[e1,e2]
 exact List.nodup_append.2 ⟨h1,h2,fun a ha b hb e=>h3 a ha (e▸hb)⟩
def DY(ρ:fN)(ks:List Nat)(rws:List (Option Nat×O)):fN:=fun i=>match (ks.map some++rws.map (·.1))[i]? with
 | some (some k)=>ρ k
 | some none=>some nilN
 | none=>none
where nilN:Value:=.slice none 0 0
theorem KS{f:FuncId}{A:Callee}{dst:Option Nat}{ds:List D}{vals:List Value}{k:St→D→Option R}(hG:Good P w0 F)(hA:A.OK P f)(h:Rel w0 F Xc ρ0 ρ st a w)(hlen:ds.length=vals.length)
 (hd:∀(i:Nat) d v,ds[i]?=some d→vals[i]?=some v→RdD w (XB st.objs ρ Xc) ρ d v) (hk:pG A st dst ds k=some r):
 Calls P f vals.toArray w fun e w'=>∃v ρ' st' d,e=.returned v∧Rel w0 F Xc ρ0 ρ' st' a w'∧RdD w' (XB st'.objs ρ' Xc) ρ' d v∧k st' d=some r:=by
 obtain⟨hA,hAi,_⟩:=hA
 unfold pG at hk
 split at hk
 ·rename_i I hI
  exact hAi I hI dst ds vals k hG h hlen hd hk
 unfold rO at hk
 split at hk
 ·cases hk
 rename_i ss hss
 have hds:=DU hss
 split at hk
 ·cases hk
 rename_i bl hbl
 split at hk
 ·cases hk
 rename_i cs rws hhand
 dsimp only at hk
 split at hk
 case isFalse=>cases hk
 rename_i hcond
 simp only[Bool.and_eq_true,decide_eq_true_eq,List.all_eq_true] at hcond
 obtain⟨hrk,hdis⟩:=hcond
 obtain⟨rs,po',hk1,hcon⟩:=hA _ _ _ r hk
 clear hk
 generalize hks:l6 A.deep st.objs ss=ks at *
 generalize htk:eM A.rows (ss.flatMap S1.list++bl.flatten)=tk at *
 have hks_nd:ks.Nodup:=hks▸ST _ _ ss
 obtain⟨hbl1,hbl2⟩:=qR hbl
 have hbox:∀(i:Nat) l,bl[i]?=some l→∃kk,ks[i]?=some kk∧st.objs[kk]?=some (.box l):=fun i l hi=>by
  obtain⟨kk,g1,g2⟩:=nD hbl i l hi
  unfold qS at g2
  split at g2
  ·cases g2;exact⟨kk,g1,by assumption⟩
  ·cases g2
 have hf:=h.freeze tk
 have hsl:RdSs w (XB st.objs ρ Xc) ρ ss vals:=⟨by rw[←hlen,hds,List.length_map],fun i s y h1 h2=>hd i (.s s) y (by rw[hds,List.getElem?_map,h1];rfl) h2⟩
 obtain⟨ys1,hy1,hback1⟩:=SV ss vals hsl
 obtain⟨ys2,hy2,hback2⟩:=SW (w:=w) (X:=XB st.objs ρ Xc) (ρ:=ρ) (Q:=fun i zs=>∃kk v g ys ty,ks[i]?=some kk∧ρ kk=some v∧v=.pointer (some ⟨g,0,none⟩)∧w.heap[g]?=some (.cells ys ty (0,0))∧HeadOK (bl.getD i []) g ys ty∧ys.toList=zs) bl 0 (fun i l hi=>by
  obtain⟨kk,g1,g2⟩:=hbox i l hi
  obtain⟨v,e1,g,ys,ty,e2,e3,e0,e4⟩:=h.objs kk _ g2
  exact⟨ys.toList,e4,kk,v,g,ys,ty,by rw[Nat.zero_add];exact g1,e1,e2,e3,by rw[Nat.zero_add,List.getD_eq_getElem?_getD,hi];exact e0,rfl⟩)
 have hrows:=xI _ _ _ _ _ hhand
 generalize hpo:d5 bl (cs.drop (ss.flatMap S1.list).length)++rws.map (·.2)=po at *
 let km0:List (Option Nat):=ks.map some++rws.map (·.1)
 have hkm0:km0=ks.map some++rws.map (·.1):=rfl
 have hρP:∀(i:Nat) m,km0[i]?=some m→DY ρ ks rws i=match m with | some k=>ρ k | none=>some (.slice none 0 0):=fun i m hm=>by
  unfold DY
  rw[←hkm0,hm]
  cases m <;> rfl
 have hidx:∀k i,DT ks k=some i→∀v,ρ k=some v→DY ρ ks rws i=some v:=fun k i hi v hv=>by
  have h1:=OX hi
  have hil:i<ks.length:=(List.getElem?_eq_some_iff.1 h1).1
  rw[hρP i (some k) (by rw[hkm0,List.getElem?_append_left (by simpa using hil),List.getElem?_map,h1];rfl)]
  exact hv
 have hrwP:∀(q:Nat) p,rws[q]?=some p→DY ρ ks rws (ks.length+q)=match p.1 with | some key=>ρ key | none=>some (.slice none 0 0):=fun q p hp=>by
  exact hρP (ks.length+q) p.1 (by rw[hkm0,List.getElem?_append_right (by simp)];simp[hp])
 have hXsub:∀b,XB (freezeL st.objs tk) ρ Xc b→XB st.objs ρ Xc b:=fun b hb=>by
  rcases hb with⟨j,hj⟩ | hb
  ·exact .inl ⟨j,S0 hj⟩
  ·exact .inr hb
 have hnb:bl.length=ks.length:=hbl1
 have hpoB:∀i,i<ks.length→po[i]?=(d5 bl (cs.drop (ss.flatMap S1.list).length))[i]?:=fun i hi=>by
  rw[←hpo,List.getElem?_append_left (by rw[nY];omega)]
 have hpoR:∀q,po[ks.length+q]?=(rws[q]?).map (·.2):=fun q=>by
  rw[←hpo,List.getElem?_append_right (by rw[nY];omega),nY,hnb,Nat.add_sub_cancel_left,List.getElem?_map]
 have hrowF:∀(q:Nat) p,rws[q]?=some p→∀key,p.1=some key→(freezeL st.objs tk)[key]?=some p.2:=fun q p hp key hk=>by
  obtain⟨e,n,l,h1,h2,_⟩:=hrows p (List.mem_of_getElem? hp)
  rw[qI tk _ key (fun hm=>?_)]
  ·exact h2 key hk
  ·have:=hdis key (List.mem_filterMap.2 ⟨p,List.mem_of_getElem? hp,hk⟩)
   simp[hm] at this
 have hHpo:∀i b,Has po (DY ρ ks rws) i b→∃k,km0[i]?=some (some k)∧Has (freezeL st.objs tk) ρ k b:=fun i b ⟨o,v,h1,h2,h3,h4⟩=>by
  by_cases hi:i<ks.length
  ·have hkk:ks[i]?=some ks[i]:=List.getElem?_eq_getElem hi
   have hkm:km0[i]?=some (some ks[i]):=by rw[hkm0,List.getElem?_append_left (by simpa using hi),List.getElem?_map,hkk];rfl
   have hbi:i<bl.length:=by omega
   obtain⟨kk,g1,g2⟩:=hbox i _ (List.getElem?_eq_getElem hbi)
   rw[hkk] at g1
   cases g1
   rw[hρP i _ hkm] at h3
   exact⟨ks[i],hkm,_,v,kX _ _ _ _ g2,rfl,h3,h4⟩
  ·obtain⟨q,rfl⟩:∃q,i=ks.length+q:=⟨i-ks.length,by omega⟩
   rw[hpoR q] at h1
   cases hp:rws[q]? with
   | none=>simp[hp] at h1
   | some p=>
    rw[hrwP q p hp] at h3
    simp only[hp,Option.map_some,Option.some.injEq] at h1
    have hkm:km0[ks.length+q]?=some p.1:=by rw[hkm0,List.getElem?_append_right (by simp)];simp[hp]
    cases hp1:p.1 with
    | none=>rw[hp1] at h3;simp only[Option.some.injEq] at h3;subst h3;have h5:=h4.one rfl;simp[blk] at h5
    | some key=>
     rw[hp1] at h3 hkm
     refine⟨key,hkm,p.2,v,hrowF q p hp key hp1,?_,h3,h4⟩
     rw[h1];exact h2
 have hXs:∀b,XB po (DY ρ ks rws) (fun b=>XB (freezeL st.objs tk) ρ Xc b∧¬r6 po (DY ρ ks rws) b) b→XB (freezeL st.objs tk) ρ Xc b:=fun b hb=>by
  rcases hb with⟨i,hi⟩ | hb
  ·obtain⟨kk,_,hh⟩:=hHpo i b hi
   exact .inl ⟨kk,hh⟩
  ·exact hb.1
 have hcells:RdL w (XB po (DY ρ ks rws) (fun b=>XB (freezeL st.objs tk) ρ Xc b∧¬r6 po (DY ρ ks rws) b)) (DY ρ ks rws) cs (ys1++ys2):=by
  refine KR h (fun b hb=>hXsub b (hXs b hb)) hidx _ _ _ _ _ _ hhand (fun key hkey b v hv hb hx=>?_) (fun q p hp=>hrwP q p hp) (hy1.append hy2)
  obtain⟨o,hob,hro⟩:=DV _ _ _ _ _ hhand key hkey
  obtain⟨o',f1,f2⟩:=U2 hob hro (htk▸hkey)
  have hk':=hf.objs key _ f1
  cases o' with
  | row fz e n l=>
   obtain⟨v',e1,e2⟩:=hk'
   rw[hv] at e1
   cases e1
   exact e2.frozen f2 b hb (hXs b hx)
  | mp fz e n l=>
   obtain⟨v',e1,e2⟩:=hk'
   rw[hv] at e1
   cases e1
   exact e2.frozen f2 b hb (hXs b hx)
  | box l=>cases f2
  | fbox l=>cases f2
  | rr hole e e2 n l=>cases f2
  | fwd l=>cases f2
  | itr cur e n l=>cases f2
  | dead=>cases f2
  | fresh=>cases f2
 have hlen1:ys1.length=(ss.flatMap S1.list).length:=hy1.1
 have hcs2:=hcells.cut
 obtain⟨hc1,hc2⟩:=hcs2
 rw[hlen1] at hc1 hc2
 obtain⟨hbl3,hboxP⟩:=hback2 _ _ _ hc2
 have hcall:=hcon w (fun b=>XB (freezeL st.objs tk) ρ Xc b∧¬r6 po (DY ρ ks rws) b) (DY ρ ks rws) vals (fun i o ho=>by
  by_cases hi:i<ks.length
  ·rw[hpoB i hi] at ho
   obtain⟨l',zs,rfl,⟨kk,v,g,ys,ty,e1,e2,e3,e4,e0,e5⟩,e6⟩:=hboxP i o ho
   rw[Nat.zero_add] at e1 e0
   refine⟨v,?_,g,ys,ty,e3,e4,(CN bl _ (DW _ _ _ _ _ hhand).right i l' ho).head e0,by rw[e5];exact e6⟩
   rw[hρP i (some kk) (by rw[hkm0,List.getElem?_append_left (by simpa using hi),List.getElem?_map,e1];rfl)]
   exact e2
  ·obtain⟨q,rfl⟩:∃q,i=ks.length+q:=⟨i-ks.length,by omega⟩
   rw[hpoR q] at ho
   cases hp:rws[q]? with
   | none=>simp[hp] at ho
   | some p=>
    simp only[hp,Option.map_some,Option.some.injEq] at ho
    subst ho
    obtain⟨e,n,l,h1,h2,h3⟩:=hrows p (List.mem_of_getElem? hp)
    have hr:=hrwP q p hp
    cases hp1:p.1 with
    | none=>
     rw[hp1] at hr
     obtain⟨h1,hn⟩:=h3 hp1
     rw[h1]
     exact⟨_,hr,hn,.nil n,⟨[],rowAt.nil w e n,⟨rfl,fun i t y h1 _=>by simp[flat] at h1⟩⟩,fun hc=>by cases hc⟩
    | some key=>
     rw[hp1] at hr
     have hF:=hrowF q p hp key hp1
     rcases h1 with h1 | h1
     ·rw[h1] at hF ⊢
      obtain⟨v,f1,f2⟩:=hf.objs key _ hF
      exact⟨v,hr.trans f1,f2.1,f2.2.1,by
       obtain⟨xs,f3,f4⟩:=f2.2.2.1
       exact⟨xs,f3,f4.step (.refl (fun _=>False) w) (fun _ hb=>False.elim hb) (fun b hb=>.inl (hXs b hb))⟩,fun hc=>by cases hc⟩
     ·rw[h1] at hF ⊢
      obtain⟨v,f1,q1,g,es,clock,q2,q3,q4,q5⟩:=hf.objs key _ hF
      exact⟨v,hr.trans f1,q1,g,es,clock,q2,q3,q4.step (.refl (fun _=>False) w) (fun _ hb=>False.elim hb) (fun b hb=>.inl (hXs b hb)),fun hc=>by cases hc⟩)
  (fun i j b hi hj=>by
   obtain⟨k1,g1,h1⟩:=hHpo i b hi
   obtain⟨k2,g2,h2⟩:=hHpo j b hj
   have:=hf.sep k1 k2 b h1 h2
   subst this
   exact Ks (OY hks_nd hrk (fun key hk hk2=>by
    obtain⟨p,hp,hpk⟩:=List.mem_filterMap.1 hk2
    obtain⟨i,hi,hie⟩:=List.getElem_of_mem hk
    have hbi:i<bl.length:=by omega
    obtain⟨kk,g1,g2⟩:=hbox i _ (List.getElem?_eq_getElem hbi)
    rw[List.getElem?_eq_getElem hi,hie] at g1
    cases g1
    obtain⟨e,n,l,q1,q2,_⟩:=hrows p hp
    have:=q2 key hpk
    rcases q1 with q1 | q1 <;> (rw[g2,q1] at this;cases this))) g1 g2)
  (fun b hb=>by
   rcases hb.1 with hm | hx
   ·exact hf.lt hm
   ·exact Nat.lt_of_lt_of_le (hf.xcl b hx) hf.frame.size)
  (fun b hb hx=>hx.2 hb)
  (hG.call h.frame fun b ⟨i,hi⟩=>by
   obtain⟨kk,_,hh⟩:=hHpo i b hi
   exact hf.own b ⟨kk,hh⟩)
  (hback1 _ _ _ _ hcells)
 refine hcall.mono fun e w' ⟨v,ρ',he,hs,hρ',hle,hok,hsep,hnew,hres⟩=>?_
 split at hk1
 ·rename_i hb
  simp only[Bool.and_eq_true,List.isEmpty_iff] at hb
  obtain⟨⟨hb1,hb2⟩,hb3⟩:=hb
  have hno:∀b,¬r6 po (DY ρ ks rws) b:=fun b ⟨i,o,_,h1,_⟩=>by rw[hb1] at h1;simp at h1
  exact⟨v,ρ,st,P9 rs,he,h.world (hs.mono fun b hb _=>(hno b hb).elim),Ce hres hb3,hk1⟩
 ·split at hk1
  ·cases hk1
  rename_i nk hnk
  split at hk1
  case isFalse=>cases hk1
  rename_i hcond2
  simp only[Bool.and_eq_true,decide_eq_true_eq] at hcond2
  obtain⟨hnkd,_⟩:=hcond2
  split at hk1
  case h_2=>cases hk1
  rename_i po2 rs' hpo2 hrs'
  obtain⟨hnl,hnf⟩:=G2 hnk
  obtain⟨hp2l,hp2⟩:=qR hpo2
  have hpl:po.length=km0.length:=by
   rw[←hpo,hkm0,List.length_append,nY,List.length_append,List.length_map,List.length_map,List.length_map,hnb]
  have hkml:(km0++nk.map some).length=po'.length:=by rw[List.length_append,List.length_map,hnl];omega
  let ρ'':fN:=fun j=>match DT nk j with | some i=>ρ' (po.length+i) | none=>ρ j
  have hρn:∀(i k:Nat),nk[i]?=some k→ρ'' k=ρ' (po.length+i):=fun i k hi=>by
   cases hq:DT nk k with
   | none=>exact((List.idxOf?_eq_none_iff.1 hq) (List.mem_of_getElem? hi)).elim
   | some q=>
    have:=ZN hnkd (OX hq) hi
    subst this
    simp only[ρ'',hq]
  have hρo:∀k,k∉nk→ρ'' k=ρ k:=fun k hk=>by
   have:DT nk k=none:=List.idxOf?_eq_none_iff.2 hk
   simp only[ρ'',this]
  have hkmF:∀(i k:Nat),km0[i]?=some (some k)→∃o,(freezeL st.objs tk)[k]?=some o∧o≠.fresh:=fun i k hi=>by
   rw[hkm0] at hi
   by_cases hik:i<ks.length
   ·rw[List.getElem?_append_left (by simpa using hik),List.getElem?_map] at hi
    have hkk:ks[i]?=some k:=by
     cases hq:ks[i]? with
     | none=>simp[hq] at hi
     | some k'=>simp only[hq,Option.map_some,Option.some.injEq] at hi;rw[hi]
    obtain⟨kk,g1,g2⟩:=hbox i _ (List.getElem?_eq_getElem (show i<bl.length by omega))
    rw[hkk] at g1
    cases g1
    exact⟨_,kX _ _ _ _ g2,fun e=>by cases e⟩
   ·rw[List.getElem?_append_right (by simpa using Nat.le_of_not_lt hik)] at hi
    simp only[List.length_map,List.getElem?_map] at hi
    cases hp:rws[i-ks.length]? with
    | none=>simp[hp] at hi
    | some p=>
     simp only[hp,Option.map_some,Option.some.injEq] at hi
     obtain⟨e,n,l,q1,_,_⟩:=hrows p (List.mem_of_getElem? hp)
     exact⟨p.2,hrowF _ p hp k hi,fun e=>by rcases q1 with q1 | q1 <;> (rw[q1] at e;cases e)⟩
  have hkmn:∀(i k:Nat),km0[i]?=some (some k)→k∉nk:=fun i k hi hm=>by
   obtain⟨o,h1,h2⟩:=hkmF i k hi
   rw[(hnf k hm).1] at h1
   cases h1
   exact h2 rfl
  have hkmc:∀(i:Nat) m,(km0++nk.map some)[i]?=some m→(i<po.length∧km0[i]?=some m)∨∃q k,i=po.length+q∧nk[q]?=some k∧m=some k:=fun i m hi=>by
   rw[List.getElem?_append] at hi
   split at hi
   ·rename_i hlt;exact .inl ⟨by omega,hi⟩
   ·rename_i hlt
    rw[List.getElem?_map] at hi
    cases hq:nk[i-km0.length]? with
    | none=>simp[hq] at hi
    | some k=>simp only[hq,Option.map_some,Option.some.injEq] at hi;exact .inr ⟨i-km0.length,k,by omega,hq,hi.symm⟩
  have hkmA:∀(i k:Nat),(km0++nk.map some)[i]?=some (some k)→ρ'' k=ρ' i:=fun i k hi=>by
   rcases hkmc i _ hi with⟨h1,h2⟩ | ⟨q,k',h1,h2,h3⟩
   ·rw[hρo k (hkmn i k h2),hρ' i h1,hρP i _ h2]
   ·cases h3;rw[h1];exact hρn q k h2
  have hKm:Cd (km0++nk.map some) ρ' ρ'':=fun i m hi v hv=>by
   cases m with
   | some k=>exact(hkmA i k hi).trans hv
   | none=>
    rcases hkmc i _ hi with⟨h1,h2⟩ | ⟨q,k',h1,h2,h3⟩
    ·rw[hρ' i h1,hρP i _ h2] at hv
     simp only[Option.some.injEq] at hv
     exact hv.symm
    ·cases h3
  have hkmN:((km0++nk.map some).filterMap id).Nodup:=by
   rw[List.filterMap_append,List.filterMap_map]
   have e1:nk.filterMap (id ∘ some)=nk:=XG nk
   rw[e1]
   refine List.nodup_append.2 ⟨OY hks_nd hrk (fun key hk hk2=>?_),hnkd,fun a ha b hb e=>?_⟩
   ·obtain⟨p,hp,hpk⟩:=List.mem_filterMap.1 hk2
    obtain⟨i,hi,hie⟩:=List.getElem_of_mem hk
    obtain⟨kk,g1,g2⟩:=hbox i _ (List.getElem?_eq_getElem (show i<bl.length by omega))
    rw[List.getElem?_eq_getElem hi,hie] at g1
    cases g1
    obtain⟨e,n,l,q1,q2,_⟩:=hrows p hp
    have:=q2 key hpk
    rcases q1 with q1 | q1 <;> (rw[g2,q1] at this;cases this)
   ·subst e
    obtain⟨m,hm,hme⟩:=List.mem_filterMap.1 ha
    simp only[id_eq] at hme
    subst hme
    obtain⟨i,hi,hie⟩:=List.getElem_of_mem hm
    exact hkmn i a (by rw[List.getElem?_eq_getElem hi,hie]) hb
  have hmem:∀j,some j∈km0++nk.map some→∃i,(km0++nk.map some)[i]?=some (some j):=fun j hj=>by
   obtain⟨i,hi,e⟩:=List.getElem_of_mem hj
   exact⟨i,by rw[List.getElem?_eq_getElem hi,e]⟩
  have hlt:∀(i k:Nat),(km0++nk.map some)[i]?=some (some k)→k<(freezeL st.objs tk).length:=fun i k hi=>by
   rcases hkmc i _ hi with⟨_,h2⟩ | ⟨q,k',_,h2,h3⟩
   ·obtain⟨o,h4,_⟩:=hkmF i k h2
    exact(List.getElem?_eq_some_iff.1 h4).1
   ·cases h3
    exact(List.getElem?_eq_some_iff.1 (hnf k (List.mem_of_getElem? h2)).1).1
  have hXF:∀b,r6 po (DY ρ ks rws) b→∃k,some k∈km0++nk.map some∧Has (freezeL st.objs tk) ρ k b:=fun b ⟨i,hi⟩=>by
   obtain⟨k,h1,h2⟩:=hHpo i b hi
   exact⟨k,List.mem_append.2 (.inl (List.mem_of_getElem? h1)),h2⟩
  have hobj:∀(i k:Nat) o,(km0++nk.map some)[i]?=some (some k)→po2[i]?=some o→(xH (freezeL st.objs tk) (km0++nk.map some) po2)[k]?=some o:=fun i k o h1 h2=>
   QB _ _ _ i k o hkmN h1 h2 (hlt i k h1)
  have hobj':∀(i k:Nat),(km0++nk.map some)[i]?=some (some k)→∃o o2,po'[i]?=some o∧zV (km0++nk.map some) o=some o2∧(xH (freezeL st.objs tk) (km0++nk.map some) po2)[k]?=some o2:=fun i k hi=>by
   have hil:i<po'.length:=by rw[←hkml];exact(List.getElem?_eq_some_iff.1 hi).1
   obtain⟨o2,g1,g2⟩:=hp2 i _ (List.getElem?_eq_getElem hil)
   exact⟨_,o2,List.getElem?_eq_getElem hil,g2,hobj i k o2 hi g1⟩
  have hlive:∀o o2,zV (km0++nk.map some) o=some o2→o2.live=o.live:=fun o o2 ho=>by
   cases o with
   | box l=>
    simp only[zV] at ho
    cases hq:kE (l.map (sU (km0++nk.map some))) with
    | none=>simp[hq] at ho
    | some l'=>simp only[hq,Option.map_some,Option.some.injEq] at ho;subst ho;rfl
   | row fz e n l=>simp only[zV,Option.some.injEq] at ho;subst ho;rfl
   | mp fz e n l=>simp only[zV,Option.some.injEq] at ho;subst ho;rfl
   | fbox l=>cases ho
   | rr hole e e2 n l=>cases ho
   | fwd l=>cases ho
   | itr cur e n l=>cases ho
   | dead=>simp only[zV,Option.some.injEq] at ho;subst ho;rfl
   | fresh=>cases ho
  have hH2:∀(i k b:Nat),(km0++nk.map some)[i]?=some (some k)→Has (xH (freezeL st.objs tk) (km0++nk.map some) po2) ρ'' k b→Has po' ρ' i b:=fun i k b hi ⟨o,v,h1,h2,h3,h4⟩=>by
   obtain⟨o0,o2,g1,g2,g3⟩:=hobj' i k hi
   rw[g3] at h1
   cases h1
   exact⟨o0,v,g1,by rw[←hlive _ _ g2];exact h2,by rw[←hkmA i k hi];exact h3,h4⟩
  have hXX:∀b,XB (xH (freezeL st.objs tk) (km0++nk.map some) po2) ρ'' Xc b→XB po' ρ' (fun b=>XB (freezeL st.objs tk) ρ Xc b∧¬r6 po (DY ρ ks rws) b) b:=fun b hb=>by
   rcases hb with⟨j,hj⟩ | hb
   ·by_cases hK:some j∈km0++nk.map some
    ·obtain⟨i,hi⟩:=hmem j hK
     exact .inl ⟨i,hH2 i j b hi hj⟩
    ·have hj':Has (freezeL st.objs tk) ρ j b:=by
      obtain⟨o,v,h1,h2,h3,h4⟩:=hj
      rw[mW _ _ _ j hK] at h1
      rw[hρo j (fun hm=>hK (List.mem_append.2 (.inr (List.mem_map.2 ⟨j,hm,rfl⟩))))] at h3
      exact⟨o,v,h1,h2,h3,h4⟩
     refine .inr ⟨.inl ⟨j,hj'⟩,fun hm=>?_⟩
     obtain⟨k,hk,hh⟩:=hXF b hm
     have:=hf.sep j k b hj' hh
     exact hK (this▸hk)
   ·refine .inr ⟨.inr hb,fun hm=>?_⟩
    obtain⟨k,_,hh⟩:=hXF b hm
    exact hf.xc b ⟨k,hh⟩ hb
  have hsame:Stp (fun _=>False) w' w':=.refl _ w'
  refine⟨v,ρ'',_,P9 rs',he,hf.change (xH (freezeL st.objs tk) (km0++nk.map some) po2) ρ'' (fun j=>some j∈km0++nk.map some) hs (fun j hj=>?_) (fun j v hv=>?_) hXF (fun j b hj hb=>?_) (fun j j' b hj hj' hb hb'=>?_) (fun hX j o hj ho=>?_) (fun j hj=>?_),Kr hXX hKm hres hrs',hk1⟩
  ·exact⟨mW _ _ _ j hj,hρo j (fun hm=>hj (List.mem_append.2 (.inr (List.mem_map.2 ⟨j,hm,rfl⟩))))⟩
  ·by_cases hm:j∈nk
   ·have:ρ j=none:=hf.objs j _ (hnf j hm).1
    rw[this] at hv;cases hv
   ·rw[hρo j hm];exact hv
  ·obtain⟨i,hi⟩:=hmem j hj
   rcases hnew i b (hH2 i j b hi hb) with⟨k',hk'⟩ | hge
   ·exact .inl (hXF b ⟨k',hk'⟩)
   ·exact .inr hge
  ·obtain⟨i,hi⟩:=hmem j hj
   obtain⟨i',hi'⟩:=hmem j' hj'
   have:=hsep i i' b (hH2 i j b hi hb) (hH2 i' j' b hi' hb')
   subst this
   rw[hi] at hi'
   cases hi'
   rfl
  ·obtain⟨i,hi⟩:=hmem j hj
   obtain⟨o0,o2,g1,g2,g3⟩:=hobj' i j hi
   have ho':(xH (freezeL st.objs tk) (km0++nk.map some) po2)[j]?=some o:=ho
   rw[g3] at ho'
   cases ho'
   have hk0:=hok i o0 g1
   cases o0 with
   | dead=>simp only[zV,Option.some.injEq] at g2;subst g2;trivial
   | fresh=>cases g2
   | rr hole e e2 n l=>cases g2
   | fwd l=>cases g2
   | itr cur e n l=>cases g2
   | fbox l=>cases g2
   | row fz e n l=>
    simp only[zV,Option.some.injEq] at g2
    subst g2
    obtain⟨v,f1,f2⟩:=hk0
    exact⟨v,(hkmA i j hi).trans f1,f2.1,f2.2.1,(by
     obtain⟨xs,f3,f4⟩:=f2.2.2.1
     exact⟨xs,f3,f4.step hsame (fun _ hb=>False.elim hb) (fun b hb=>.inl (hXX b hb))⟩),fun hz b hb hx=>f2.2.2.2 hz b hb (hXX b hx)⟩
   | mp fz e n l=>
    simp only[zV,Option.some.injEq] at g2
    subst g2
    obtain⟨v,f1,q1,g,es,clock,q2,q3,q4,q5⟩:=hk0
    exact⟨v,(hkmA i j hi).trans f1,q1,g,es,clock,q2,q3,q4.step hsame (fun _ hb=>False.elim hb) (fun b hb=>.inl (hXX b hb)),fun hz hx=>q5 hz (hXX g hx)⟩
   | box l=>
    simp only[zV] at g2
    cases hq:kE (l.map (sU (km0++nk.map some))) with
    | none=>simp[hq] at g2
    | some l'=>
     simp only[hq,Option.map_some,Option.some.injEq] at g2
     subst g2
     obtain⟨v,f1,g,ys,ty,f2,f3,f0,f4⟩:=hk0
     exact⟨v,(hkmA i j hi).trans f1,g,ys,ty,f2,f3,(VB hq).head f0,SY hXX hKm f4 hq⟩
  ·exact hρo j (fun hm=>by have h7:st.np≤j:=(hnf j hm).2;have h8:j<st.np:=hj;omega)
end
end Go.Eng
