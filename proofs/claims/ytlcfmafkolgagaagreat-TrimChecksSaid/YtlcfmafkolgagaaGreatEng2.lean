/- An engine that turns the code of a function into a plain function on tuples, part 2: what it says of a function holds of every run; it has no conditions of its own. -/
import Derived.Laws.StructEq
import Derived.ChangeKeysEq
import Derived.Lib.ConvBytes
import Derived.MapKept
import Derived.Carry
import Derived.Lib.MinMax
import Derived.LoopN
import Derived.Maps.RangeRun
import Derived.Scope
import Derived.Test.YtlcfmafkolgagaaGreatEng1
set_option linter.unusedSimpArgs false
set_option linter.unusedVariables false
namespace Go.Eng
open Go.RowKit
@[irreducible] def Q0(a b:Bool):Bool:=a&&b
section
variable {R:Type} (P:Program)
def UB(rc:TypeId→S1→S1→(Bool→Option R)→Option R)(cs ds:List C):List Field→(Bool→Option R)→Option R
 | [],k=>k true
 | f::fs,k=>if f.name = "_" then none else match CD P f.type,tV P f.type with
  | some ag,some n=>match NE cs f.offset n ag,NE ds f.offset n ag with
   | some s,some s'=>rc f.type s s' fun b=>UB rc cs ds fs fun r=>k (Q0 b r)
   | _,_=>none
  | _,_=>none
def UC(rc:TypeId→S1→S1→(Bool→Option R)→Option R)(e:TypeId)(n:Nat)(ag:Bool)(cs ds:List C):List Nat→(Bool→Option R)→Option R
 | [],k=>k true
 | i::is,k=>match NE cs (i*n) n ag,NE ds (i*n) n ag with
  | some s,some s'=>rc e s s' fun b=>UC rc e n ag cs ds is fun r=>k (Q0 b r)
  | _,_=>none
def S1.aggs:S1→Option (List C)
 | .agg l=>some l
 | _=>none
def F7:Nat→TypeId→S1→S1→(Bool→Option R)→Option R
 | 0,_,_,_,_=>none
 | d+1,t,x,y,k=>match P.underlying t with
  | some (.int kd)=>QV kd (.s x) fun a=>QV kd (.s y) fun b=>k (eqI a b)
  | some .bool=>QW (.s x) fun a=>QW (.s y) fun b=>k (MZ a b)
  | some .string=>M0 (.s x) fun a=>M0 (.s y) fun b=>k (Hz a b)
  | some (.struct fs)=>if P.stoodInHeld t=true then none else match x.aggs,y.aggs with
   | some cs,some ds=>UB P (F7 d) cs ds fs.toList k
   | _,_=>none
  | some (.array n e)=>match CD P e,tV P e,x.aggs,y.aggs with
   | some ag,some sz,some cs,some ds=>UC (F7 d) e sz ag cs ds (List.range n) k
   | _,_,_,_=>none
  | _=>none
def Lw(P:Program)(ty:TypeId):Bool:=match P.underlying ty with
 | some (.struct _)=>true
 | some (.array _ _)=>true
 | _=>false
def Rw(d:D)(k:S1→Option R):Option R:=match d with
 | .s x=>k x
 | _=>none
def Io(op:BinOp)(ty yty:TypeId)(x y:D)(f:D→Option R):Option R:=
 if Lw P ty=true then (if P.eqGuardType P.depth ty=true then none else
  Rw x fun a=>Rw y fun b=>if op=.eql then F7 P 8 ty a b fun b=>f (dB b) else if op=.neq then F7 P 8 ty a b fun b=>f (dB (!b)) else none)
 else xH P op ty yty x y f
variable {P} {w:World} {X:Nat→Prop} {ρ:gU}
def Rx(P:Program)(w:World)(X:Nat→Prop)(ρ:gU)(d:Nat)(rc:∀{R:Type},TypeId→S1→S1→(Bool→Option R)→Option R):Prop:=
 ∀{R:Type} (r:R) (t:TypeId) (x y:S1) (vx vy:Value) (k:Bool→Option R),RdS w X ρ x vx→RdS w X ρ y vy→rc t x y k=some r→∃b,(Op.equalIn d t vx vy).run P w=.ok b w∧k b=some r
theorem Ea{d:Nat}{rc:∀{R:Type},TypeId→S1→S1→(Bool→Option R)→Option R}(hrc:Rx P w X ρ d rc){xs ys:Array Value}{cs ds:List C}(hx:RdL w X ρ cs xs.toList)(hy:RdL w X ρ ds ys.toList):
 ∀(fs:List Field) {R:Type} (r:R) (k:Bool→Option R),UB P rc cs ds fs k=some r→∃b,(Op.eqFields d xs ys fs).run P w=.ok b w∧k b=some r
 | [],R,r,k,h=>⟨true,by simp[Op.eqFields],h⟩
 | f::fs,R,r,k,h=>by
  simp only[UB] at h
  split at h
  ·cases h
  ·rename_i hn
   split at h
   case h_2=>cases h
   rename_i ag n hag hsz
   split at h
   case h_2=>cases h
   rename_i s s' hs hs'
   obtain⟨va,e1,r1⟩:=EB hx hsz hag hs
   obtain⟨vb,e2,r2⟩:=EB hy hsz hag hs'
   obtain⟨b,e3,h3⟩:=hrc r f.type s s' va vb _ r1 r2 h
   obtain⟨b',e4,h4⟩:=Ea hrc hx hy fs r _ h3
   simp only[Op.eqFields,hn,ne_eq,not_false_eq_true,if_true,Sem.run_bind,e1,e2,e3,Result.andThen_ok]
   cases b with
   | false=>exact⟨false,by simp,by unfold Q0 at h4;simpa using h4⟩
   | true=>exact⟨b',by simpa using e4,by unfold Q0 at h4;simpa using h4⟩
theorem Eb{d:Nat}{rc:∀{R:Type},TypeId→S1→S1→(Bool→Option R)→Option R}(hrc:Rx P w X ρ d rc){e:TypeId}{n:Nat}{ag:Bool}(hsz:tV P e=some n)(hag:CD P e=some ag){xs ys:Array Value}{cs ds:List C}(hx:RdL w X ρ cs xs.toList)(hy:RdL w X ρ ds ys.toList):
 ∀(is:List Nat) {R:Type} (r:R) (k:Bool→Option R),UC rc e n ag cs ds is k=some r→∃b,(Op.eqItems d e n xs ys is).run P w=.ok b w∧k b=some r
 | [],R,r,k,h=>⟨true,by simp[Op.eqItems],h⟩
 | i::is,R,r,k,h=>by
  simp only[UC] at h
  split at h
  case h_2=>cases h
  rename_i s s' hs hs'
  obtain⟨va,e1,r1⟩:=EB hx hsz hag hs
  obtain⟨vb,e2,r2⟩:=EB hy hsz hag hs'
  obtain⟨b,e3,h3⟩:=hrc r e s s' va vb _ r1 r2 h
  obtain⟨b',e4,h4⟩:=Eb hrc hsz hag hx hy is r _ h3
  simp only[Op.eqItems,Sem.run_bind,e1,e2,e3,Result.andThen_ok]
  cases b with
  | false=>exact⟨false,by simp,by unfold Q0 at h4;simpa using h4⟩
  | true=>exact⟨b',by simpa using e4,by unfold Q0 at h4;simpa using h4⟩
theorem xM{s:S1}{l:List C}{v:Value}(h:RdS w X ρ s v)(hs:s.aggs=some l):∃xs:Array Value,v=.agg xs∧RdL w X ρ l xs.toList:=by
 cases s with
 | c c=>cases hs
 | agg l'=>cases hs;exact h
theorem UD:∀(d D:Nat),d≤D→Rx P w X ρ D (fun {R}=>F7 (R:=R) P d)
 | 0,D,_,R,r,t,x,y,vx,vy,k,hx,hy,h=>by cases h
 | d+1,0,hD,R,r,t,x,y,vx,vy,k,hx,hy,h=>by omega
 | d+1,D+1,hD,R,r,t,x,y,vx,vy,k,hx,hy,h0=>by
  have h:F7 P (d+1) t x y k=some r:=h0
  clear h0
  have ih:Rx P w X ρ D (fun {R}=>F7 (R:=R) P d):=@fun R=>@UD d D (by omega) R
  have hx':RdD w X ρ (.s x) vx:=hx
  have hy':RdD w X ρ (.s y) vy:=hy
  simp only[F7] at h
  split at h
  ·rename_i kd hu
   obtain⟨a,rfl,h⟩:=sT hx' h
   obtain⟨b,rfl,h⟩:=sT hy' h
   exact⟨a==b,run_equalIn_int w D t kd kd a b hu,by unfold eqI at h;exact h⟩
  ·rename_i hu
   obtain⟨a,rfl,h⟩:=yQ hx' h
   obtain⟨b,rfl,h⟩:=yQ hy' h
   exact⟨a==b,run_equalIn_bool w D t a b hu,by unfold MZ at h;exact h⟩
  ·rename_i hu
   obtain⟨a,rfl,h⟩:=uQ hx' h
   obtain⟨b,rfl,h⟩:=uQ hy' h
   exact⟨a.toList==b.toList,run_equalIn_string w D t a b hu,by unfold Hz at h;exact h⟩
  ·rename_i fs hu
   split at h
   ·cases h
   rename_i hst
   split at h
   case h_2=>cases h
   rename_i cs ds hcs hds
   obtain⟨xs,rfl,hxs⟩:=xM hx hcs
   obtain⟨ys,rfl,hys⟩:=xM hy hds
   obtain⟨b,e,hk⟩:=Ea ih hxs hys fs.toList r k h
   have hf:P.fieldsOf t=fs:=by simp[Program.fieldsOf,hu]
   refine⟨b,?_,hk⟩
   rw[run_equalIn_struct w D t xs ys (by rw[hf];exact hu) (by simpa using hst),hf]
   exact e
  ·rename_i n e hu
   split at h
   case h_2=>cases h
   rename_i ag sz cs ds hag hsz hcs hds
   obtain⟨xs,rfl,hxs⟩:=xM hx hcs
   obtain⟨ys,rfl,hys⟩:=xM hy hds
   obtain⟨b,e',hk⟩:=Eb ih hsz hag hxs hys (List.range n) r k h
   refine⟨b,?_,hk⟩
   obtain⟨i,hi,hsi⟩:∃i,P.info? e=some i∧i.size=sz:=by
    unfold tV at hsz
    cases hi:P.info? e with
    | none=>simp[hi] at hsz
    | some i=>exact⟨i,rfl,by simpa[hi] using hsz⟩
   have hc:P.cellsOf e=sz:=by simp[Program.cellsOf,hi,hsi]
   rw[run_equalIn_array w D xs ys hu hi,hc]
   exact e'
  ·cases h
theorem Ec{d:D}{v:Value}{r:R}{k:S1→Option R}(h:RdD w X ρ d v)(hk:Rw d k=some r):∃s,RdS w X ρ s v∧k s=some r:=by
 cases d with
 | s x=>exact⟨x,h,hk⟩
 | tup l=>cases hk
theorem Ry{r:R}{op:BinOp}{ty yty:TypeId}{x y:D}{xo yo:Operand}{vx vy:Value}{f:D→Option R}(hx:RdD w X ρ x vx)(hy:RdD w X ρ y vy)(h:Io P op ty yty x y f=some r):
 ∃d v,(do eqGuard op ty xo yo vx vy;binOp op ty vx vy:Sem Value).run P w=.ok v w∧RdD w X ρ d v∧f d=some r:=by
 unfold Io at h
 split at h
 case isFalse=>exact Du hx hy h
 rename_i hagg
 split at h
 ·cases h
 rename_i hg
 obtain⟨a,ha,h1⟩:=Ec hx h
 obtain⟨b,hb,h2⟩:=Ec hy h1
 clear h h1
 have aggv:∀{R:Type} {r:R} {k:Bool→Option R},F7 P 8 ty a b k=some r→(∃xs,vx=.agg xs)∧∃ys,vy=.agg ys:=by
  intro R r k h
  have h8:F7 P 8 ty a b k=match P.underlying ty with
   | some (.int kd)=>QV kd (.s a) fun a=>QV kd (.s b) fun b=>k (eqI a b)
   | some .bool=>QW (.s a) fun a=>QW (.s b) fun b=>k (MZ a b)
   | some .string=>M0 (.s a) fun a=>M0 (.s b) fun b=>k (Hz a b)
   | some (.struct fs)=>if P.stoodInHeld ty=true then none else match a.aggs,b.aggs with
    | some cs,some ds=>UB P (F7 P 7) cs ds fs.toList k
    | _,_=>none
   | some (.array n e)=>match CD P e,tV P e,a.aggs,b.aggs with
    | some ag,some sz,some cs,some ds=>UC (F7 P 7) e sz ag cs ds (List.range n) k
    | _,_,_,_=>none
   | _=>none:=rfl
  rw[h8] at h
  unfold Lw at hagg
  split at hagg
  ·rename_i fs hu
   simp only[hu] at h
   split at h
   ·cases h
   split at h
   case h_2=>cases h
   rename_i h1 h2
   obtain⟨xs,e1,_⟩:=xM ha h1
   obtain⟨ys,e2,_⟩:=xM hb h2
   exact⟨⟨xs,e1⟩,ys,e2⟩
  ·rename_i n e hu
   simp only[hu] at h
   split at h
   case h_2=>cases h
   rename_i h1 h2
   obtain⟨xs,e1,_⟩:=xM ha h1
   obtain⟨ys,e2,_⟩:=xM hb h2
   exact⟨⟨xs,e1⟩,ys,e2⟩
  ·cases hagg
 have hguard:∀xs ys,(eqGuard op ty xo yo (.agg xs) (.agg ys)).run P w=.ok () w:=fun xs ys=>by
  unfold eqGuard
  have hg':P.eqGuardType P.depth ty=false:=by simpa using hg
  cases op <;> first
   | rfl
   | (simp only[Bool.not_true,Bool.false_eq_true,if_false,Sem.run_bind,run_program,Result.andThen_ok,hg',Bool.not_false,if_true,Sem.run_pure])
 have hm:∀vx vy,(Op.equal ty vx vy).run P w=(Op.equalIn 10000 ty vx vy).run P w:=fun _ _=>rfl
 split at h2
 ·rename_i ho
  subst ho
  obtain⟨⟨xs,rfl⟩,ys,rfl⟩:=aggv h2
  obtain⟨q,e,hk⟩:=UD (P:=P) 8 10000 (by omega) r ty a b _ _ _ ha hb h2
  refine⟨_,.bool q,?_,.bool q,hk⟩
  simp only[Sem.run_bind,hguard,Result.andThen_ok]
  show (do pure (.bool (←Op.equal ty (.agg xs) (.agg ys))):Sem Value).run P w=_
  simp only[Sem.run_bind,hm,e,Result.andThen_ok,Sem.run_pure]
 ·split at h2
  ·rename_i ho
   subst ho
   obtain⟨⟨xs,rfl⟩,ys,rfl⟩:=aggv h2
   obtain⟨q,e,hk⟩:=UD (P:=P) 8 10000 (by omega) r ty a b _ _ _ ha hb h2
   refine⟨_,.bool (!q),?_,.bool (!q),hk⟩
   simp only[Sem.run_bind,hguard,Result.andThen_ok]
   show (do pure (.bool (!(←Op.equal ty (.agg xs) (.agg ys)))):Sem Value).run P w=_
   simp only[Sem.run_bind,hm,e,Result.andThen_ok,Sem.run_pure]
  ·cases h2
end
@[irreducible] def Lx(s:ByteArray):Option (List T):=if s.size≤140737488355328 then some (lS s) else none
section
variable {R:Type} (P:Program)
def NO(st:St)(src dst:TypeId)(x:D)(k:D→Option R):Option R:=
 match P.underlying src,P.underlying dst with
 | some .string,some (.slice e)=>match P.underlying e with
  | some (.int .u8)=>M0 x fun s=>ob (Lx s) fun l=>k (.s (.c (.t (.sl 1 l))))
  | _=>none
 | _,_=>zN P st src dst x k
end
section
variable {R:Type} {P:Program} {w0 w:World} {F Xc:Nat→Prop} {ρ0:Base} {ρ:gU} {st:St} {a:Act} {r:R}
theorem NP(s:ByteArray):flat (lS s)=lS s:=by
 unfold lS
 induction s.data.toList with
 | nil=>rfl
 | cons b l ih=>rw[List.map_cons,iL,ih];rfl
theorem Ly{src dst:TypeId}{x:D}{v:Value}{k:D→Option R}(hR:Rel w0 F Xc ρ0 ρ st a w)(h:RdD w (XB st.objs ρ Xc) ρ x v)(hk:NO P st src dst x k=some r):
 ∃y w' d,(convert src dst v).run P w=.ok y w'∧Stp (fun _=>False) w w'∧RdD w' (XB st.objs ρ Xc) ρ d y∧k d=some r:=by
 unfold NO at hk
 split at hk
 ·rename_i e hs hd
  split at hk
  case h_2=>cases hk
  rename_i he
  obtain⟨s,rfl,hk1⟩:=uQ h hk
  obtain⟨l,hl,hk2⟩:=aX hk1
  unfold Lx at hl
  split at hl
  case isFalse=>cases hl
  rename_i hsz
  cases hl
  have hrun:=Lib.run_convert_string_bytes (P:=P) w src dst e s hs hd he
  refine⟨_,_,_,hrun,⟨rfl,rfl,rfl,?_,fun b hb _=>Lib.bytesWorld_at_old w e s b hb⟩,RdD.one (c:=.t (.sl 1 (lS s))) ?_ rfl,hk2⟩
  ·have:=Lib.bytesWorld_size w e s;omega
  ·have hbl:lS s=s.data.toList.map fun b=>.v (.int .u8 b.toNat):=by unfold lS;rfl
   have hln:(lS s).length=s.size:=by rw[hbl];simp
   have key:=Rd.sl (w:=Lib.bytesWorld w e s) (X:=XB st.objs ρ Xc) 1 (lS s) ⟨w.heap.size,0,none⟩ (grownCap w s.size 0 e) (s.data.toList.map fun b=>.int .u8 b.toNat)
    (by decide) (by rw[hln];exact grownCap_ge w s.size 0 e) (grownCap_le_maxLen w s.size 0 e (by unfold maxLen;omega))
    (fun t ht=>by rw[hbl] at ht;obtain⟨b,_,rfl⟩:=List.mem_map.1 ht;rfl) (by rw[NP,hln];simp)
    (fun i y hi=>by
     rw[List.getElem?_map] at hi
     obtain⟨b,hb,rfl⟩:=Option.map_eq_some_iff.1 hi
     have hlt:i<s.size:=by have:=(List.getElem?_eq_some_iff.1 hb).1;simpa using this
     refine⟨?_,fun hx=>?_,rfl⟩
     ·have hc:=Lib.bytesWorld_cell w e s i hlt
      have ha:(Addr.mk w.heap.size 0 none).add i=⟨w.heap.size,i,none⟩:=by unfold Addr.add;split <;> simp_all
      rw[ha,hc,List.getD_eq_getElem?_getD,hb];rfl
     ·rcases hx with hx | hx
      ·have:=hR.lt hx
       exact Nat.lt_irrefl _ this
      ·have h1:=hR.xcl _ hx
       have h2:=hR.frame.size
       have:w.heap.size<w0.heap.size:=h1
       omega)
    (fun i t y h1 h2=>by
     rw[NP,hbl,List.getElem?_map] at h1
     rw[List.getElem?_map] at h2
     obtain⟨b,hb,rfl⟩:=Option.map_eq_some_iff.1 h1
     obtain⟨b',hb',rfl⟩:=Option.map_eq_some_iff.1 h2
     rw[hb] at hb';cases hb'
     exact .v _)
   rw[hln] at key
   exact key
 ·obtain⟨y,d,h1,h2,h3⟩:=XC hR h hk
  exact⟨y,w,d,h1,.refl _ _,h2,h3⟩
end
@[irreducible] def Rz(a b:Nat):Int:=(min a b:Nat)
@[irreducible] def Ip{α:Type}(l:List α):Nat:=l.length
@[irreducible] def Sa{α:Type}(es:List α)(lo len:Nat)(src:List α):List α:=es.take lo++src.take (min src.length len)++es.drop (lo+min src.length len)
section
variable {R:Type} (P:Program)
def NQ(st:St)(t:TypeId)(s x:D)(k:St→D→Option R):Option R:=
 match P.underlying t with
 | some (.slice e)=>match tV P e with
  | some n=>vG s fun cs=>vG x fun cx=>qB st n cx fun src=>match cs with
   | .row key=>match st.objs[key]? with
    | some (.row false e' n' es)=>if n'=n then k { st with objs:=st.objs.set key (.row false e' n (Sa es 0 (Ip es) src)) } (dI .i64 (Rz (Ip src) (Ip es))) else none
    | _=>none
   | .cut key m lo len _=>match st.objs[key]? with
    | some (.row false e' n' es)=>if n'=n∧m=n then k { st with objs:=st.objs.set key (.row false e' n (Sa es lo len src)) } (dI .i64 (Rz (Ip src) len)) else none
    | _=>none
   | _=>none
  | none=>none
 | _=>none
end
section
variable {R:Type} {P:Program} {w0 w w':World} {F Xc:Nat→Prop} {ρ0:Base} {ρ:gU} {st:St} {a:Act} {r:R}
theorem Rel.splice(h:Rel w0 F Xc ρ0 ρ st a w){key:Nat}{e:TypeId}{n:Nat}{es es':List T}{hv:Value}{g off cap p:Nat}{cur:Array Value}{ts:List T}{vs:List Value}
 (hob:st.objs[key]?=some (.row false e n es)) (e1:ρ key=some hv) (z1:hv=.slice (some ⟨g,off,none⟩) es.length cap) (z2:0<cap) (z3:w.heap[g]?=some (.cells cur e (0,0))) (z4:es.length≤cap) (z5:cap≤maxLen) (z6:off+cap*n≤cur.size)
 (hl:es'.length=es.length) (u1:Uni n es') (u2:flat es'=(flat es).take p++ts++(flat es).drop (p+ts.length)) (ht:RdT w (XB st.objs ρ Xc) ts vs) (hp:p+ts.length≤es.length*n):
 Rel w0 F Xc ρ0 ρ { st with objs:=st.objs.set key (.row false e n es') } a (w.setRow g (cur.toList.take (off+p)++vs++cur.toList.drop (off+p+vs.length)).toArray):=by
 obtain⟨hv',f1,f2⟩:=h.objs key _ hob
 rw[e1] at f1
 cases f1
 obtain⟨h0,hu,⟨xs,hown,hr⟩,hf⟩:=f2
 have hcapm:es.length*n≤cap*n:=Nat.mul_le_mul_right _ z4
 have hflt:(flat es).length=es.length*n:=hu.length
 have hcl:off+cap*n≤cur.toList.length:=by rw[Array.length_toList];exact z6
 have hdl:(cur.toList.drop off).length=cur.toList.length-off:=List.length_drop
 have hxl:xs.length=es.length*n:=hown.1
 have hvl:vs.length=ts.length:=ht.1
 have z7:(cur.toList.drop off).take (es.length*n)=xs:=by
  rcases hown.2 with⟨hn | ⟨a,hn⟩,hz⟩ | ⟨g',off',cap',cur',q1,q2,q3,q4,q5,q6,q7⟩
  ·rw[z1] at hn;cases hn
  ·rw[hz,Nat.zero_mul] at hxl
   rw[hz,Nat.zero_mul,List.take_zero,List.eq_nil_of_length_eq_zero hxl]
  ·rw[z1] at q1
   cases q1
   rw[z3] at q3
   cases q3
   exact q7
 have hlt:key<st.objs.length:=(List.getElem?_eq_some_iff.1 hob).1
 have hblk:blk hv=some g:=by rw[z1];simp[blk];omega
 have hHas:Has st.objs ρ key g:=⟨_,hv,hob,rfl,e1,.inl hblk⟩
 refine h.change _ ρ (·=key) (cT w g _) (fun jj hj=>⟨by rw[List.getElem?_set_ne (fun e=>hj e.symm)],rfl⟩) (.refl _) (fun b hb=>⟨key,rfl,hb▸hHas⟩)
  (fun jj b hj hb=>?_) (fun jj j' b hj hj' _ _=>hj.trans hj'.symm) (fun hX jj o' hj ho'=>?_) (fun _ _=>rfl)
 ·subst hj
  obtain⟨o',v,_,_,q3,q4⟩:=hb
  rw[e1] at q3
  cases q3
  have q5:=q4.one (by rw[z1];rfl)
  rw[hblk] at q5
  cases q5
  exact .inl ⟨_,rfl,hHas⟩
 ·subst hj
  rw[List.getElem?_set_self hlt] at ho'
  cases ho'
  refine⟨hv,e1,h0,u1,⟨xs.take p++vs++xs.drop (p+vs.length),⟨?_,.inr ⟨g,off,cap,_,by rw[hl];exact z1,z2,setRow_heap w g cur _ e (0,0) z3,by rw[hl];exact z4,z5,?_,?_⟩⟩,?_⟩,fun hc=>by cases hc⟩
  ·rw[tP _ _ _ _ (by omega) rfl,hl];exact hown.1
  ·rw[List.size_toArray,tP _ _ _ _ (by omega) rfl,Array.length_toList];exact z6
  ·have:=KK (cur.toList.drop off) vs p (es.length*n) (by omega) (by omega)
   rw[hl,KL _ _ _ _ _ (by omega),this,z7]
  ·rw[u2]
   have hr':=hr.step (X':=XB (st.objs.set jj (O.row false e n es')) ρ Xc) (cT w g (cur.toList.take (off+p)++vs++cur.toList.drop (off+p+vs.length)).toArray) (fun b hb=>.inl ⟨_,hb▸hHas⟩) hX
   have ht':=ht.step (X':=XB (st.objs.set jj (O.row false e n es')) ρ Xc) (cT w g (cur.toList.take (off+p)++vs++cur.toList.drop (off+p+vs.length)).toArray) (fun b hb=>.inl ⟨_,hb▸hHas⟩) hX
   rw[hvl] at hr' ht' ⊢
   exact hr'.splice ht' (p:=p) (by omega)
theorem CutOf.whole{h:Value}{fz:Bool}{e:TypeId}{n:Nat}{es:List T}{X:Nat→Prop}(ho:okO w X ρ h (.row fz e n es)):CutOf h n 0 es.length false h:=by
 rcases iN ho with⟨rfl,rfl⟩ | ⟨a,cap,rfl,h1,_⟩
 ·exact⟨none,0,0,0,none,rfl,rfl,Nat.le_refl _,Nat.le_refl _,Nat.le_refl _,fun h=>by omega,fun h=>by cases h⟩
 ·exact⟨some a,_,cap,cap,some a,rfl,rfl,by omega,h1,by omega,fun _=>by simp[Addr.add],fun h=>by cases h⟩
theorem SO{t u ty e0:TypeId}{n key lo len:Nat}{tg:Bool}{e:TypeId}{es src:List T}{hv y vx:Value}{ys:List Value}(h:Rel w0 F Xc ρ0 ρ st a w)(ht:P.underlying t=some (.slice e0))(hn:tV P e0=some n)
 (hob:st.objs[key]?=some (.row false e n es)) (e1:ρ key=some hv) (hc:CutOf hv n lo len tg y) (hus:Uni n src) (hys:RdT w (XB st.objs ρ Xc) (flat src) ys)
 (hy:(∃q,vx=.slice none 0 q∧src=[])∨∃ad q,vx=.slice (some ad) src.length q∧src.length≤q∧∀(j:Nat) u,ys[j]?=some u→w.cell? (ad.add j)=some u):
 ∃w',(Builtin.copy_ #[t,u] ty #[y,vx]).run P w=.ok (.int .i64 (Rz src.length len)) w'∧Rel w0 F Xc ρ0 ρ { st with objs:=st.objs.set key (.row false e n (Sa es lo len src)) } a w':=by
 obtain⟨hv',f1,f2⟩:=h.objs key _ hob
 rw[e1] at f1
 cases f1
 have f2':=f2
 obtain⟨hpos,hu,⟨xs,hown,hr⟩,hf⟩:=f2
 have hklt:key<st.objs.length:=(List.getElem?_eq_some_iff.1 hob).1
 obtain⟨ao,L,c,cc,ao',rfl,rfl,g1,g2,g3,g4,_⟩:=hc
 unfold Rz Sa
 have hnm:Nat.min src.length len=min src.length len:=rfl
 have hlenOf:(Builtin.lenOf vx).run P w=.ok src.length w:=by
  rcases hy with⟨q,rfl,rfl⟩ | ⟨ad,q,rfl,_⟩ <;> rfl
 have hL:L=es.length:=by
  rcases iN f2' with⟨h1,rfl⟩ | ⟨a,cap,h1,_⟩
  ·cases h1;rfl
  ·cases h1;rfl
 subst hL
 have hone:∀v∈ys,v.oneCell'=true:=fun v hv=>by
  obtain⟨i,hi,rfl⟩:=List.getElem_of_mem hv
  have hlt:i<(flat src).length:=by rw[←hys.1];exact hi
  exact(hys.2 i _ _ (List.getElem?_eq_getElem hlt) (List.getElem?_eq_getElem hi)).2
 have hyl:ys.length=src.length*n:=by rw[hys.1,hus.length]
 have hm1:min src.length len*n≤src.length*n:=Nat.mul_le_mul_right _ (Nat.min_le_left _ _)
 have hfirst:(Builtin.firstCells n (min src.length len) vx).run P w=.ok (ys.take (min src.length len*n)).toArray w:=by
  rcases hy with⟨q,rfl,rfl⟩ | ⟨ad,q,rfl,_,hcell⟩
  ·have:ys=[]:=List.eq_nil_of_length_eq_zero (by simpa using hyl)
   subst this
   simpa using run_firstCells_none w n (min 0 len) 0 q
  ·refine run_firstCells_some w n (min src.length len) ad src.length q _ (by rw[List.length_take];omega) (fun j v hj=>?_)
   rw[List.getElem?_take] at hj
   split at hj
   ·exact hcell j v hj
   ·cases hj
 have hrun:∀(w':World),(match ao' with | some a=>storeCells a (ys.take (min src.length len*n)) 0 | none=>pure ()).run P w=.ok () w' →
  (Builtin.copy_ #[t,u] ty #[.slice ao' len cc,vx]).run P w=.ok (.int .i64 ((min src.length len:Nat):Int)) w':=fun w' hs=>by
  unfold Builtin.copy_
  simp only[List.getElem?_toArray,List.getElem?_cons_zero,List.getElem?_cons_succ,Sem.run_bind,run_underlying ht,Result.andThen_ok,hlenOf,bR hn,hnm,hfirst]
  cases ao' with
  | none=>simp only[Sem.run_pure] at hs ⊢;cases hs;rfl
  | some a'=>
   dsimp only at hs ⊢
   simp only[Sem.run_bind]
   rw[hs]
   rfl
 by_cases hz:min src.length len=0
 ·refine⟨w,hrun w ?_,?_⟩
  ·rw[hz,Nat.zero_mul,List.take_zero]
   cases ao' <;> rfl
  ·rw[hz,List.take_zero,List.append_nil,Nat.add_zero,List.take_append_drop]
   have:st.objs.set key (.row false e n es)=st.objs:=by
    apply List.ext_getElem?
    intro i
    rw[List.getElem?_set]
    split
    ·rename_i hi;subst hi;exact hob.symm
    ·rfl
   rw[this]
   exact h
 ·rcases hown.2 with⟨hnn,h0⟩ | ⟨g,off,cap,cur,q1,q2,q3,q4,q5,q6,q7⟩
  ·exfalso;omega
  ·cases q1
   have h5:=g4 (by omega)
   have hadd:(⟨g,off,none⟩:Addr).add (lo*n)=⟨g,off+lo*n,none⟩:=by unfold Addr.add;split <;> simp_all
   simp only[Option.map_some,hadd] at h5
   subst h5
   have hmul:(lo+min src.length len)*n≤es.length*n:=Nat.mul_le_mul_right _ (by omega)
   have hmul2:es.length*n≤c*n:=Nat.mul_le_mul_right _ q4
   rw[Nat.add_mul] at hmul
   have hst:=run_storeCells_at P g (off+lo*n) e (ys.take (min src.length len*n)) 0 cur w q3 (by rw[List.length_take];omega) (fun v hv=>hone v (List.mem_of_mem_take hv))
   refine⟨_,hrun _ hst,?_⟩
   simp only[Nat.add_zero]
   have hftl:(flat (src.take (min src.length len))).length=min src.length len*n:=by rw[hus.flat_take,List.length_take,hus.length];omega
   refine h.splice (p:=lo*n) (ts:=flat (src.take (min src.length len))) hob e1 rfl q2 q3 q4 q5 q6 ?_ ?_ ?_ ?_ ?_
   ·simp;omega
   ·intro t ht
    rcases List.mem_append.1 ht with ht | ht
    ·rcases List.mem_append.1 ht with ht | ht
     ·exact hu t (List.mem_of_mem_take ht)
     ·exact hus t (List.mem_of_mem_take ht)
    ·exact hu t (List.mem_of_mem_drop ht)
   ·rw[iH,iH,hu.flat_take,hu.flat_drop,hftl,Nat.add_mul]
   ·rw[hus.flat_take]
    refine⟨by simp[hys.1],fun i t z h1 h2=>?_⟩
    rw[List.getElem?_take] at h1 h2
    split at h1
    ·rename_i hlt
     rw[if_pos hlt] at h2
     exact hys.2 i t z h1 h2
    ·cases h1
   ·rw[hftl];exact hmul
theorem Lz{t u ty:TypeId}{s x:D}{vs vx:Value}{k:St→D→Option R}(h:Rel w0 F Xc ρ0 ρ st a w)(hs:RdD w (XB st.objs ρ Xc) ρ s vs)(hx:RdD w (XB st.objs ρ Xc) ρ x vx)
 (hk:NQ P st t s x k=some r):
 ∃y w' st' d,(Builtin.copy_ #[t,u] ty #[vs,vx]).run P w=.ok y w'∧Rel w0 F Xc ρ0 ρ st' a w'∧RdD w' (XB st'.objs ρ Xc) ρ d y∧k st' d=some r:=by
 unfold NQ at hk
 split at hk
 case h_2=>cases hk
 rename_i e0 ht
 split at hk
 case h_2=>cases hk
 rename_i n hn
 obtain⟨cs,rfl,hcs,hk1⟩:=nH hs hk
 obtain⟨cx,rfl,hcx,hk2⟩:=nH hx hk1
 clear hk hk1
 obtain⟨src,hk3,hus,ys,hys,hy⟩:=EF h hcx hk2
 clear hk2
 split at hk3
 ·rename_i key
  split at hk3
  case h_2=>cases hk3
  rename_i e n' es hob
  split at hk3
  case isFalse=>cases hk3
  rename_i hnn
  subst hnn
  rcases hcs with hcs | ⟨hcs,_⟩
  ·cases hcs
  have e1:ρ key=some vs:=hcs
  obtain⟨hv,f1,f2⟩:=h.objs key _ hob
  rw[e1] at f1
  cases f1
  obtain⟨w',r1,r2⟩:=SO (u:=u) (ty:=ty) h ht hn hob e1 (CutOf.whole f2) hus hys hy
  unfold Ip at hk3
  exact⟨_,w',_,_,r1,r2,.int .i64 _,hk3⟩
 ·rename_i key m lo len tg
  split at hk3
  case h_2=>cases hk3
  rename_i e n' es hob
  split at hk3
  case isFalse=>cases hk3
  rename_i hnn
  obtain⟨rfl,rfl⟩:=hnn
  rcases hcs with hcs | ⟨⟨v,q1,q2⟩,_⟩
  ·cases hcs
  obtain⟨w',r1,r2⟩:=SO (u:=u) (ty:=ty) h ht hn hob q1 q2 hus hys hy
  unfold Ip at hk3
  exact⟨_,w',_,_,r1,r2,.int .i64 _,hk3⟩
 ·cases hk3
end
@[irreducible] def Iq{α:Type}(l:List α):Bool:=l.isEmpty
def Xi:D:=.s (.c .amb)
section
variable {R:Type} (P:Program)
def Ar:D→Bool
 | .s (.c (.t (.v (.slice none 0 0))))=>true
 | _=>false
def As(st:St)(eq:Bool)(c:C)(k:D→Option R):Option R:=match c with
 | .t (.v (.slice none 0 0))=>k (dB eq)
 | .t (.sl n l)=>if n<1000000000 then (bif Iq l then k Xi else k (dB (!eq))) else none
 | .row key=>match st.objs[key]? with
  | some (.row _ _ _ es)=>bif Iq es then k Xi else k (dB (!eq))
  | _=>none
 | _=>none
def Q1(st:St)(op:BinOp)(ty yty:TypeId)(x y:D)(k:D→Option R):Option R:=match P.underlying ty with
 | some (.slice _)=>if Ar y=true then vG x fun c=>if op=.eql then As st true c k else if op=.neq then As st false c k else none else none
 | _=>Io P op ty yty x y k
end
section
variable {R:Type} {P:Program} {w0 w:World} {F Xc:Nat→Prop} {ρ0:Base} {ρ:gU} {st:St} {a:Act} {r:R}
theorem NR(t e:TypeId)(a:Option Addr)(l c:Nat)(h:P.underlying t=some (.slice e)):(Op.equal t (.slice a l c) (.slice none 0 0)).run P w=.ok a.isNone w:=by
 have key:∀d:Nat,(Op.equalIn (d+1) t (.slice a l c) (.slice none 0 0)).run P w=.ok a.isNone w:=fun d=>by
  cases a <;> simp[Op.equalIn,run_underlying h]
 exact key 9999
theorem Ir{X:Nat→Prop}{d:D}{v:Value}(h:RdD w X ρ d v)(hd:Ar d=true):v=.slice none 0 0:=by
 unfold Ar at hd
 split at hd
 ·rcases h with h | ⟨h,_⟩
  ·cases h
  ·exact Rd.inv_v h
 ·cases hd
theorem Ee{eq:Bool}{c:C}{v:Value}{k:D→Option R}(hR:Rel w0 F Xc ρ0 ρ st a w)(hc:RdC1 w (XB st.objs ρ Xc) ρ c v)(hk:As st eq c k=some r):
 ∃ad l q d,v=.slice ad l q∧k d=some r∧RdD w (XB st.objs ρ Xc) ρ d (.bool (ad.isNone==eq)):=by
 have amb:∀b:Bool,RdD w (XB st.objs ρ Xc) ρ Xi (.bool b):=fun b=>.one (c:=.amb) ⟨b,rfl⟩ rfl
 have nn:∀(x:Addr),RdD w (XB st.objs ρ Xc) ρ (dB (!eq)) (.bool ((some x).isNone==eq)):=fun x=>by
  cases eq <;> exact .bool _
 unfold As at hk
 split at hk
 ·rcases hc with hc | ⟨hc,_⟩
  ·cases hc
  ·have:=Rd.inv_v hc
   subst this
   exact⟨none,0,0,_,rfl,hk,by cases eq <;> exact .bool _⟩
 ·rename_i n l
  split at hk
  case isFalse=>cases hk
  rename_i hnm
  rcases hc with hc | ⟨hc,_⟩
  ·cases hc
  ·unfold Iq at hk
   have hc':Rd w (XB st.objs ρ Xc) (.sl n l) v:=hc
   cases hc' with
   | mp _ _ _ _ _ hbig=>omega
   | nil=>exact⟨none,0,0,_,rfl,hk,amb _⟩
   | sl _ _ ad c ys=>
    cases hl:l.isEmpty with
    | true=>rw[hl] at hk;exact⟨some ad,_,c,_,rfl,hk,amb _⟩
    | false=>rw[hl] at hk;exact⟨some ad,_,c,_,rfl,hk,nn ad⟩
 ·rename_i key
  split at hk
  ·rename_i fz e n es hob
   rcases hc with hc | ⟨hc,_⟩
   ·cases hc
   ·obtain⟨hv,e1,e2⟩:=hR.objs key _ hob
    have hcc:ρ key=some v:=hc
    rw[hcc] at e1
    cases e1
    unfold Iq at hk
    rcases iN e2 with⟨rfl,rfl⟩ | ⟨a0,cap,rfl,_⟩
    ·exact⟨none,0,0,_,rfl,hk,amb _⟩
    ·cases hl:es.isEmpty with
     | true=>rw[hl] at hk;exact⟨some a0,_,cap,_,rfl,hk,amb _⟩
     | false=>rw[hl] at hk;exact⟨some a0,_,cap,_,rfl,hk,nn a0⟩
  ·cases hk
 ·cases hk
theorem Sb{op:BinOp}{ty yty:TypeId}{x y:D}{xo yo:Operand}{vx vy:Value}{k:D→Option R}(hR:Rel w0 F Xc ρ0 ρ st a w)(hx:RdD w (XB st.objs ρ Xc) ρ x vx)(hy:RdD w (XB st.objs ρ Xc) ρ y vy)(hk:Q1 P st op ty yty x y k=some r):
 ∃d v,(do eqGuard op ty xo yo vx vy;binOp op ty vx vy:Sem Value).run P w=.ok v w∧RdD w (XB st.objs ρ Xc) ρ d v∧k d=some r:=by
 unfold Q1 at hk
 split at hk
 ·rename_i e hu
  split at hk
  case isFalse=>cases hk
  rename_i hn
  have:=Ir hy hn
  subst this
  obtain⟨c,rfl,hc,hk1⟩:=nH hx hk
  split at hk1
  ·rename_i ho
   subst ho
   obtain⟨ad,l,q,d,rfl,hk2,hd⟩:=Ee hR hc hk1
   refine⟨d,_,?_,hd,hk2⟩
   simp only[Sem.run_bind,CB (a:=.slice ad l q) (by simp) (by simp),Result.andThen_ok]
   simp[binOp,NR ty e ad l q hu]
  ·split at hk1
   ·rename_i ho
    subst ho
    obtain⟨ad,l,q,d,rfl,hk2,hd⟩:=Ee hR hc hk1
    refine⟨d,_,?_,hd,hk2⟩
    simp only[Sem.run_bind,CB (a:=.slice ad l q) (by simp) (by simp),Result.andThen_ok]
    simp[binOp,NR ty e ad l q hu]
   ·cases hk1
 ·exact Ry hx hy hk
end
section
variable {P:Program} {w:World} {X:Nat→Prop} {ρ:gU}
end
section
variable {R:Type} (P:Program)
end
section
variable {R:Type} {P:Program} {w0 w w':World} {F Xc X:Nat→Prop} {ρ0:Base} {ρ:gU} {st:St} {a:Act} {r:R}
end
section
variable {R:Type} {P:Program} {w0 w w':World} {F Xc X:Nat→Prop} {ρ0:Base} {ρ:gU} {st:St} {a:Act} {r:R}
end
section
variable {R:Type} (P:Program)
end
section
variable {R:Type} {P:Program} {w0 w w':World} {F Xc X:Nat→Prop} {ρ0:Base} {ρ:gU} {st:St} {a:Act} {r:R}
theorem okR.map{X:Nat→Prop}{hole:Option Nat}{c:Nat}{e1 e2:TypeId}{n:Nat}{l:List (List T)}{vs:Array Value}{v:Value}(h:okR w X hole e1 e2 n l (.tuple vs))(hv:vs[0]?=some v)(he:e1=c+1000000000):
 ∃(hs:List Value) (g:Nat) (es:Array MapEntry) (clock:Nat),vs=(v::hs).toArray∧v=.map (some g)∧w.heap[g]?=some (.map es clock)∧es.size=l.length∧hs.length=l.length ∧
  (∀(i:Nat) m en,l[i]?=some m→es[i]?=some en→∃k m',m=k::m'∧Lb c k=some en.key)∧(∀(i:Nat) en,es[i]?=some en→en.val.oneCell'=true)∧clock=es.size∧(∀(i:Nat) en,es[i]?=some en→en.born=i) ∧
  (∀(i:Nat) en z,es[i]?=some en→hs[i]?=some z→hole≠some i→en.val=z) ∧
  (∀(i:Nat) m y,l[i]?=some m→hs[i]?=some y→Uni n (W1 e1 m)∧∃ys,rowAt w e2 n y (W1 e1 m).length ys∧RdT w X (flat (W1 e1 m)) ys) ∧
  ∀(i j:Nat) y z b,(v::hs)[i]?=some y→(v::hs)[j]?=some z→blk y=some b→blk z=some b→i=j:=by
 obtain⟨h0,ho,hs,xs,hvs,g2,g3,g4,g5,g6⟩:=h
 cases hvs
 have:ho=v:=by simpa using hv
 subst this
 rcases g2 with⟨g2,_⟩ | ⟨_,g,es,clock,rfl,hg,hl,rfl,hkeys,hcl,hborn⟩
 ·exact(Nat.not_lt.2 (he▸Nat.le_add_left _ _) g2).elim
 have hcc:e1-1000000000=c:=by rw[he];exact Nat.add_sub_cancel _ _
 rw[hcc] at hkeys
 have hx:∀(i:Nat) en,es[i]?=some en→(es.toList.map (·.val))[i]?=some en.val:=fun i en hen=>by rw[List.getElem?_map];simp[hen]
 refine⟨hs,g,es,clock,rfl,rfl,hg,hl,g3,hkeys,fun i en hen=>?_,hcl,hborn,fun i en z hen hz hne=>(g4 i en.val z (hx i en hen) hz).2 hne,g5,g6⟩
 have hlt:i<es.size:=(Array.getElem?_eq_some_iff.1 hen).1
 exact(g4 i en.val _ (hx i en hen) (List.getElem?_eq_getElem (show i<hs.length by omega))).1
end
section
variable {R:Type} {P:Program} {w0 w w':World} {F Xc X:Nat→Prop} {ρ0:Base} {ρ:gU} {st:St} {a:Act} {r:R}
theorem UE{t:TypeId}{x:D}{vx:Value}{k:St→D→Option R}(h:Rel w0 F Xc ρ0 ρ st a w)(hx:RdD w (XB st.objs ρ Xc) ρ x vx)(hk:zM P st t x k=some r):
 ∃y st' d,(Instr.sliceAt t vx none none none).run P w=.ok y w∧Rel w0 F Xc ρ0 ρ st' a w∧RdD w (XB st'.objs ρ Xc) ρ d y∧k st' d=some r:=by
 unfold zM at hk
 split at hk
 case h_2=>cases hk
 rename_i n e hu
 split at hk
 case h_2=>cases hk
 rename_i m tys key hm hty
 split at hk
 case h_2=>cases hk
 rename_i l hob
 split at hk
 case isFalse=>cases hk
 rename_i hcond
 obtain⟨hlen,hpos,hmax⟩:=hcond
 obtain⟨hv,f1,g,ys,ty,f2,f3,f0,f4⟩:=h.objs key _ hob
 have hk9:=zL f4 hk
 obtain⟨ts,hk1,t1,t2,t3⟩:=hk9
 rcases hx with hx | ⟨⟨hv',q1,ba,q2,q3⟩,_⟩
 ·cases hx
 rw[f1] at q1
 cases q1
 rw[f2] at q2
 simp only[CA,Option.some.injEq] at q2
 subst q2
 have hadd:(⟨g,0,none⟩:Addr).add 0=⟨g,0,none⟩:=by unfold Addr.add;simp
 rw[hadd] at q3
 subst q3
 have hlt:key<st.objs.length:=(List.getElem?_eq_some_iff.1 hob).1
 have hblk:blk hv=some g:=by rw[f2];rfl
 have hHas:Has st.objs ρ key g:=⟨_,hv,hob,rfl,f1,.inl hblk⟩
 have hnl:∀b,¬Has (st.objs.set key (.fbox (ts.map .t))) ρ key b:=fun b ⟨o,v,g1,g2,_,_⟩=>by
  rw[List.getElem?_set_self hlt] at g1
  cases g1
  cases g2
 have hXX:∀b,XB (st.objs.set key (.fbox (ts.map .t))) ρ Xc b→XB st.objs ρ Xc b:=fun b hb=>by
  rcases hb with⟨q,hq⟩ | hb
  ·by_cases hqk:q=key
   ·subst hqk;exact(hnl b hq).elim
   ·obtain⟨o,v,g1,g2,g3,g4⟩:=hq
    rw[List.getElem?_set_ne (Ne.symm hqk)] at g1
    exact .inl ⟨q,o,v,g1,g2,g3,g4⟩
  ·exact .inr hb
 have hng:¬XB (st.objs.set key (.fbox (ts.map .t))) ρ Xc g:=fun hb=>by
  rcases hb with⟨q,hq⟩ | hb
  ·by_cases hqk:q=key
   ·subst hqk;exact hnl g hq
   ·obtain⟨o,v,g1,g2,g3,g4⟩:=hq
    rw[List.getElem?_set_ne (Ne.symm hqk)] at g1
    exact hqk (h.sep q key g ⟨o,v,g1,g2,g3,g4⟩ hHas)
  ·exact h.xc g hHas.mut hb
 have hts:RdT w (XB (st.objs.set key (.fbox (ts.map .t))) ρ Xc) ts ys.toList:=⟨t2.1,fun i t y e1 e2=>⟨(t2.2 i t y e1 e2).1.weak hXX,(t2.2 i t y e1 e2).2⟩⟩
 have hR:Rel w0 F Xc ρ0 ρ { st with objs:=st.objs.set key (.fbox (ts.map .t)) } a w:=by
  refine h.change (Y:=fun _=>False) _ ρ (·=key) (.refl _ w) (fun j hj=>⟨by rw[List.getElem?_set_ne (fun e=>hj e.symm)],rfl⟩) (.refl _) (fun b hb=>hb.elim)
   (fun j b hj hb=>by subst hj;exact(hnl b hb).elim) (fun j j' b hj hj' _ _=>hj.trans hj'.symm) (fun hX j o hj ho=>?_) (fun _ _=>rfl)
  subst hj
  rw[List.getElem?_set_self hlt] at ho
  cases ho
  refine⟨hv,f1,g,ys,ty,f2,f3,⟨by simpa using hts.1,fun i c y e1 e2=>?_⟩,hng⟩
  rw[List.getElem?_map] at e1
  cases ht:ts[i]? with
  | none=>simp[ht] at e1
  | some tt=>
   simp only[ht,Option.map_some,Option.some.injEq] at e1
   subst e1
   exact .inr (hts.2 i tt y ht e2)
 have hcl:=sY n m ts
 have htl:ts.length=n*m:=by rw[t1,hlen]
 obtain⟨u1,u2⟩:=EG n m ts htl hpos.1 t3
 have hnm:n≤n*m:=Nat.le_mul_of_pos_right _ hpos.1
 refine⟨.slice (some ⟨g,0,none⟩) n n,_,_,?_,hR,?_,hk1⟩
 ·unfold Instr.sliceAt
  simp only[Sem.run_bind,run_underlying hu,Result.andThen_ok,Instr.sureAddr,Sem.run_pure,Instr.sliceBounds,bR hm]
  by_cases hn0:n=0
  ·subst hn0;rfl
  ·rw[if_neg hn0]
   simp only[Nat.zero_mul,hadd,Nat.sub_zero]
 ·have key:Rd w (XB (st.objs.set key (.fbox (ts.map .t))) ρ Xc) (.sl m (qC n m ts)) (.slice (some ⟨g,0,none⟩) (qC n m ts).length n):=by
   refine .sl m _ _ n ys.toList hpos.2 (by rw[hcl];exact Nat.le_refl _) (by simp only[maxLen];omega) u1 (by rw[u2];exact hts.1) (fun i y hi=>?_) fun i t y e1 e2=>?_
   ·have hi':ys[i]?=some y:=by simpa using hi
    have had:(⟨g,0,none⟩:Addr).add i=⟨g,i,none⟩:=by unfold Addr.add;split <;> simp_all
    have hil:i<ts.length:=by
     have h1:=hts.1
     rw[←h1];exact(List.getElem?_eq_some_iff.1 hi).1
    refine⟨by rw[had,cell_of_row w g i ys ty (0,0) f3];exact hi',hng,(hts.2 i _ y (List.getElem?_eq_getElem hil) hi).2⟩
   ·rw[u2] at e1
    exact(hts.2 i t y e1 e2).1
  rw[hcl] at key
  exact .inr ⟨key,rfl⟩
theorem Is{t:TypeId}{x:D}{v:Value}{lo hi mx:Option D}{vlo vhi vmx:Option Value}{k:St→D→Option R}(hR:Rel w0 F Xc ρ0 ρ st a w)(h:RdD w (XB st.objs ρ Xc) ρ x v)(hlo:KN w (XB st.objs ρ Xc) ρ lo vlo)(hhi:KN w (XB st.objs ρ Xc) ρ hi vhi)
 (hmx:KN w (XB st.objs ρ Xc) ρ mx vmx) (hk:wI P st t x lo hi mx k=some r):∃y st' d,(Instr.sliceAt t v vlo vhi vmx).run P w=.ok y w∧Rel w0 F Xc ρ0 ρ st' a w∧RdD w (XB st'.objs ρ Xc) ρ d y∧k st' d=some r:=by
 unfold wI at hk
 split at hk
 ·split at hk
  case isFalse=>cases hk
  rename_i hn
  obtain⟨h1,h2,h3⟩:=hn
  have e1:vlo=none:=by
   cases lo with
   | none=>cases vlo with | none=>rfl | some v=>exact hlo.elim
   | some d=>cases h1
  have e2:vhi=none:=by
   cases hi with
   | none=>cases vhi with | none=>rfl | some v=>exact hhi.elim
   | some d=>cases h2
  have e3:vmx=none:=by
   cases mx with
   | none=>cases vmx with | none=>rfl | some v=>exact hmx.elim
   | some d=>cases h3
  subst e1;subst e2;subst e3
  exact UE hR h hk
 ·obtain⟨y,d,q1,q2,q3⟩:=Il (P:=P) (w:=w) hR h hlo hhi hmx hk
  exact⟨y,st,d,q1,hR,q2,q3⟩
end
@[irreducible] def Re(mx:Bool)(a b:Int):Int:=if mx then max a b else min a b
@[irreducible] def mmS(mx:Bool)(a b:ByteArray):ByteArray:=if mx then (if !Rl a b then a else b) else (if Rl a b||Hz a b then a else b)
section
variable {R:Type} (P:Program) (Γ:FuncId→Option Callee)
def NS(mx:Bool)(t:TypeId)(x y:D)(k:D→Option R):Option R:=match P.underlying t with
 | some (.int kd)=>QV kd x fun a=>QV kd y fun b=>k (dI kd (Re mx a b))
 | some .string=>M0 x fun a=>M0 y fun b=>k (dS (mmS mx a b))
 | _=>none
def G5(st:St)(dst:Option Nat)(ty:TypeId)(b:Builtin)(args:List D)(ts:List TypeId)(k:St→D→Option R):Option R:=match b,args,ts with
 | .len,[x],[t]=>B6 P st t x fun d=>k st d
 | .append,[s,x],[t,u]=>vH P st dst t u s x k
 | .copy,[s,x],[t,_]=>NQ P st t s x k
 | .min,[x,y],[t,_]=>NS P false t x y fun d=>k st d
 | .max,[x,y],[t,_]=>NS P true t x y fun d=>k st d
 | _,_,_=>none
def Ef(caps:List (Nat×Nat)):List D:=caps.map fun p=>.s (.c (.box p.1 p.2))
def rB:Value→Option FuncId
 | .func (.func g) first captured=>if first.isEmpty&&captured.isEmpty then some g else none
 | _=>none
def iZ(st:St)(dst:Option Nat)(f:D)(args:List D)(k:St→D→Option R):Option R:=vG f fun c=>match c with
 | .t (.v v)=>match rB v with
  | some g=>match Γ g with
   | some A=>match A.ext with
    | some I=>I.go args fun d=>k st d
    | none=>sO A st dst args k
   | none=>none
  | none=>none
 | .fn g caps=>match Γ g with
  | some A=>match A.ext with
   | some _=>none
   | none=>sO A st dst (args++Ef caps) k
  | none=>none
 | _=>none
def B7:List Nat:=match Γ 2000000 with
 | some A=>A.quiet
 | none=>[]
def CN(B:List Nat):D→Bool
 | .s (.c (.box k _))=>B.contains k
 | .s (.c (.pe _ _ _))=>true
 | _=>false
def mV:Option O→Bool
 | some (.box _)=>true
 | _=>false
def W2(B:List Nat)(o o':List O):Bool:=B.all fun k=>mV o[k]?||!mV o'[k]?
def SP:D→List Nat
 | .s s=>s.list.flatMap C.ks
 | .tup l=>l.flatMap fun s=>s.list.flatMap C.ks
def At(B:List Nat)(ds:List D):Bool:=ds.all fun d=>(SP d).all fun k=>!B.contains k
def dG:List Nat:=match Γ 2000000 with
 | some A=>A.loose
 | none=>[]
def rC(l:List Nat):Option Nat→Bool
 | some s=>l.contains s
 | none=>false
def UF:D→Bool
 | .s (.c (.box _ _))=>true
 | .s (.c (.pe _ _ _))=>true
 | .s (.c (.t _))=>true
 | _=>false
def AL(st:St):D→Bool
 | .s (.c (.box k _))=>mV st.objs[k]?
 | _=>true
def xN(P:Program)(st:St)(dst:Option Nat)(t:TypeId)(d:D)(k:D→Option R):Option R:=match B7 Γ with
 | []=>zK P st t d k
 | B=>if ((CN B d&&AL st d)||rC (dG Γ) dst)=true then zK P st t d k else none
def rD(P:Program)(st:St)(dst:Option Nat)(t:TypeId)(x ix:D)(k:D→Option R):Option R:=match B7 Γ with
 | []=>gI P st t x ix k
 | _=>if (UF x||rC (dG Γ) dst)=true then gI P st t x ix k else none
def JD(st:St)(dst:Option Nat):Bool:=(dG Γ).contains 8999999||match dst with
 | some d=>match st.objs[st.np+d]? with
  | some .fresh=>true
  | _=>false
 | none=>false
def F8:List Nat:=match Γ 2000002 with
 | some A=>A.quiet
 | none=>[]
def kG:List Nat:=match Γ 2000002 with
 | some A=>A.loose
 | none=>[]
def iOf:List Nat:=(kG Γ).filterMap fun g=>if 1500000≤g∧g<1600000 then some (g-1500000) else none
def SQ(st:St)(dst:Option Nat):Bool:=match dst with
 | some s=>!(kG Γ).contains (1600000+s)||((iOf Γ).contains (st.np+s)&&(dG Γ).contains s)
 | none=>true
def UG(P:Program)(st:St)(dst:Option Nat)(t:TypeId)(k:St→D→Option R):Option R:=match B7 Γ with
 | []=>qD P st dst t k
 | B=>if (JD Γ st dst&&SQ Γ st dst)=true then qD P st dst t fun s d=>if (W2 B st.objs s.objs||rC (dG Γ) dst)=true then k s d else none else none
def aOf:List Nat:=(kG Γ).filterMap fun g=>if 5000000≤g then some (g-5000000) else none
def Xj:D→List C
 | .s s=>s.list
 | .tup l=>l.flatMap S1.list
def Vu(o:Option O):List Nat:=match o with
 | some (.box l)=>l.flatMap C.rs
 | _=>[]
def NT(objs:List O)(k:Nat)(ds:List D):Bool:=ds.all fun d=>(Xj d).all fun c=>!c.rs.contains k&&c.ks.all fun k'=>k' != k&&!(Vu objs[k']?).contains k
def Xk:Option O→Bool
 | some .fresh=>false
 | some _=>true
 | none=>false
def aDC(objs:List O)(ds:List D):Bool:=(aOf Γ).all fun k=>Xk objs[k]?&&NT objs k ds
def XM(objs:List O)(dst:Option Nat)(ds:List D):Bool:=match dst with
 | some s=>!(kG Γ).contains (2000000+s)||((dG Γ).contains (10000000+s)&&aDC Γ objs ds)
 | none=>true
def Ma:D→Bool
 | .s (.c (.t _))=>true
 | .s (.c (.row k))=>(kG Γ).contains (5000000+k)
 | _=>false
def aBG(dst:Option Nat)(x:D):Bool:=match dst with
 | some s=>!(kG Γ).contains (3000000+s)||Ma Γ x
 | none=>true
def BG(st:St)(dst:Option Nat)(ds:List D):Bool:=match dst with
 | some s=>!(kG Γ).contains (2500000+s)||((dG Γ).contains (10000000+s)&&(((dG Γ).contains s&&!(kG Γ).contains (2000000+s))&&(iOf Γ).all fun k=>NT st.objs k ds&&(decide (k<st.np+st.env.length)&&(k != st.np+s&&decide (k<st.objs.length)))))
 | none=>true
def Au(st:St)(dst:Option Nat)(f:D)(args:List D)(k:St→Option R):Option R:=match B7 Γ with
 | []=>iZ Γ st dst f args fun st d=>k (st.put dst d)
 | B=>if rC (dG Γ) dst=true then iZ Γ st dst f args fun st d=>k (st.put dst d) else if At B (f::args)=true then iZ Γ st dst f args fun st' d=>(fun s:St=>if W2 B st.objs s.objs=true then k s else none) (st'.put dst d) else none
def Eg(st:St)(dst:Option Nat)(f:D)(args:List D)(k:St→Option R):Option R:=if (XM Γ st.objs dst (f::args)&&BG Γ st dst (f::args))=true then Au Γ st dst f args k else none
def Iu(x:D)(k:D→Option R):Option R:=vG x fun c=>match c with
 | .box _ _=>k x
 | .elt _ _ _ _=>k x
 | .pe _ _ _=>k x
 | _=>none
def NU:D→Bool
 | .s (.c (.t _))=>true
 | _=>false
def NV(dst:Option Nat)(x:D):Bool:=match B7 Γ with
 | []=>true
 | _=>NU x||rC (dG Γ) dst
def isX(dst:Option Nat):Bool:=match dst with
 | some s=>(kG Γ).contains (4000000+s)
 | none=>false
def Eh(dst:Option Nat)(x:D):Bool:=!isX Γ dst||Ma Γ x
def Xl:D→Bool
 | .s (.c (.t _))=>true
 | .s (.c (.row k))=>!(kG Γ).contains (5000000+k)
 | _=>false
def Ei(objs:List O)(dst:Option Nat):Bool:=!isX Γ dst||(aOf Γ).all fun k=>Xk objs[k]?
def aBH(objs:List O)(dst:Option Nat)(s:D):Bool:=Ei Γ objs dst&&(!isX Γ dst||Xl Γ s)
def aBI:List D→Bool
 | [.s (.c (.t _)),.s (.c (.t _))]=>true
 | [.s (.c (.row _)),.s (.c (.t _))]=>true
 | [.s (.c (.t _)),.s (.c (.row _))]=>true
 | [.s (.c (.row _)),.s (.c (.row _))]=>true
 | _=>false
def Vv(st:St)(dst:Option Nat)(args:List D):Bool:=match dst with
 | some s=>!(kG Γ).contains (2500000+s)||(BG Γ st dst args&&(aBI args&&!isX Γ dst))
 | none=>true
def zO(st:St)(dst:Option Nat)(bi:Builtin)(args:List D):Bool:=match bi with
 | .len=>args.all fun x=>NV Γ dst x&&aBG Γ dst x
 | .append=>match args with
  | s::_=>aBH Γ st.objs dst s&&Vv Γ st dst args
  | []=>true
 | _=>true
def Mb(t:TypeId)(x:D):Bool:=match B7 Γ with
 | []=>true
 | B=>(dG Γ).contains 8999999||(dG Γ).contains (60000000+t)||match x with
  | .s (.c (.box k _))=>!B.contains k
  | .s (.c (.elt _ _ _ _))=>true
  | _=>false
def Xm:D→Bool
 | .s (.c (.elt _ _ _ _))=>true
 | _=>false
def Mc:D→Bool
 | .s (.c (.box _ _))=>true
 | _=>false
def aBJ:D→Bool
 | .s (.c (.box k _))=>(kG Γ).contains (5000000+k)
 | _=>false
def Xn:D→Bool
 | .s (.c (.box k _))=>!(kG Γ).contains (5000000+k)
 | _=>false
def Vw(t:TypeId)(x:D):Bool:=((!(F8 Γ).contains t||Xm x)&&(!(F8 Γ).contains (1000000+t)||Mc x))&&(!(F8 Γ).contains (2000000+t)||Xn Γ x)
def SR(dst:Option Nat)(x:D):Bool:=match dst with
 | some s=>(!(kG Γ).contains s||Mc x)&&(!(kG Γ).contains (1000000+s)||aBJ Γ x)
 | none=>true
def aDD:List Nat:=match Γ 2000001 with
 | some A=>A.loose
 | none=>[]
def aBK(dst:Option Nat):Bool:=match dst with
 | some s=>(aDD Γ).contains s
 | none=>false
def fJ(P:Program)(st:St)(dst:Option Nat)(t:TypeId)(l c:D)(k:St→D→Option R):Option R:=if aBK Γ dst=true then xL P st dst t l c k else nM P st dst t l c k
def i0(P:Program)(st:St)(dst:Option Nat)(t:TypeId)(l c:D)(k:St→D→Option R):Option R:=match B7 Γ with
 | []=>fJ Γ P st dst t l c k
 | _=>if JD Γ st dst=true then fJ Γ P st dst t l c k else none
def Av(dst:Option Nat):Bool:=match dst with
 | some s=>(kG Γ).contains (500000+s)
 | none=>false
def Xo(P:Program)(st:St)(dst:Option Nat)(t:TypeId)(len:Nat)(parts:List (Nat×D))(k:St→D→Option R):Option R:=
 if Av Γ dst=true then Ig P t len parts fun d=>k st d else if Ei Γ st.objs dst=true then lN P st dst t len parts k else none
def Xp(o:Oper)(st:St)(k:St→Option R):Option R:=match o.op with
 | .move x=>k (st.put o.dst (ev st x))
 | .assign x=>k (st.put o.dst (ev st x))
 | .pick c x y=>QW (ev st c) fun q=>bif q then k (st.put o.dst (ev st x)) else k (st.put o.dst (ev st y))
 | .alloc e=>UG Γ P st o.dst e fun st d=>k (st.put o.dst d)
 | .box _ x=>W9 st o.dst (ev st x) fun st d=>k (st.put o.dst d)
 | .build t parts=>FY P t (parts.toList.map fun p=>(p.1,ev st p.2)) fun d=>k (st.put o.dst d)
 | .buildSlice t len parts=>Xo Γ P st o.dst t len (parts.toList.map fun p=>(p.1,ev st p.2)) fun st d=>k (st.put o.dst d)
 | .load t x=>if SR Γ o.dst (ev st x)=true then xN Γ P st o.dst t (ev st x) fun d=>k (st.put o.dst d) else none
 | .store t x v=>if (Mb Γ t (ev st x)&&Vw Γ t (ev st x))=true then yR P st t (ev st x) (ev st v) fun st=>k (st.put o.dst D.top) else none
 | .nilCheck x=>Iu (ev st x) fun d=>k (st.put o.dst d)
 | .binOp op t x y yt=>Q1 P st op t yt (ev st x) (ev st y) fun d=>k (st.put o.dst d)
 | .unOp op t x=>Rn (P:=P) op t (ev st x) fun d=>k (st.put o.dst d)
 | .convert s t x=>NO P st s t (ev st x) fun d=>k (st.put o.dst d)
 | .makeFunc fn f c=>sV fn (f.toList.map (ev st)) (c.toList.map (ev st)) fun d=>k (st.put o.dst d)
 | .makeSlice t l c=>i0 Γ P st o.dst t (ev st l) (ev st c) fun st d=>k (st.put o.dst d)
 | .slice t x lo hi mx=>if (NV Γ o.dst (ev st x)&&Eh Γ o.dst (ev st x))=true then wI P st t (ev st x) (lo.map (ev st)) (hi.map (ev st)) (mx.map (ev st)) fun st d=>k (st.put o.dst d) else none
 | .fieldAddr t x f=>qE P t (ev st x) f fun d=>k (st.put o.dst d)
 | .field t x f=>FZ P t (ev st x) f fun d=>k (st.put o.dst d)
 | .indexAddr t x ix=>rD Γ P st o.dst t (ev st x) (ev st ix) fun d=>k (st.put o.dst d)
 | .index t x ix=>F0 P t (ev st x) (ev st ix) fun d=>k (st.put o.dst d)
 | .extract x i=>wJ (ev st x) i fun d=>k (st.put o.dst d)
 | .call { callee:=.builtin b,args,argTypes }=>if zO Γ st o.dst b (args.toList.map (ev st))=true then G5 P st o.dst o.type b (args.toList.map (ev st)) argTypes.toList fun st d=>k (st.put o.dst d) else none
 | .call { callee:=.value f,args,.. }=>Eg Γ st o.dst (ev st f) (args.toList.map (ev st)) k
 | _=>none
def Q2:D:=.tup []
def Iv(d:D)(x y:Option R):Option R:=match d with
 | .tup []=>x
 | _=>y
def CO(ops:Array Oper):List Nat→St→(St→Option R)→Option R
 | [],st,k=>k st
 | i::rest,st,k=>match ops[i]? with
  | none=>CO ops rest st k
  | some o=>match o.guard with
   | none=>Xp P Γ o st fun st=>CO ops rest st k
   | some (j,want)=>match (ops[j]?).bind (·.dst) with
    | none=>none
    | some t=>Iv (st.env.getD t D.top) (CO ops rest (st.put o.dst Q2) k) <| QW (st.env.getD t D.top) fun b=>
     bif b then
      (if want then Xp P Γ o (st.put (some t) (dB true)) fun st=>CO ops rest st k else CO ops rest ((st.put (some t) (dB true)).put o.dst Q2) k)
     else
      (if want then CO ops rest ((st.put (some t) (dB false)).put o.dst Q2) k else Xp P Γ o (st.put (some t) (dB false)) fun st=>CO ops rest st k)
end
section
variable {R:Type} {P:Program} {Γ:FuncId→Option Callee} {w0 w:World} {F Xc:Nat→Prop} {ρ0:Base} {ρ:gU} {st:St} {a:Act} {r:R} {Q:Exit→Act→World→Prop}
theorem UH{o:Oper}{next:Act→World→Prop}{y:Value}{w':World}(h:(execOp a.eval o).run P w=.ok (.value y) w')(hn:next (a.put o.dst y) w'):o.wp P a w next Q:=by
 unfold Oper.wp
 rw[h]
 exact hn
theorem fH{o:Oper}{next:Act→World→Prop}{y:Value}{w':World}{ρ':gU}{st':St}{d:D}{k:St→Option R}(hrun:(execOp a.eval o).run P w=.ok (.value y) w')(hR:Rel w0 F Xc ρ0 ρ' st' a w')
 (hd:RdD w' (XB st'.objs ρ' Xc) ρ' d y) (hk:k (st'.put o.dst d)=some r) (hn:∀ρ' st' a' w',Rel w0 F Xc ρ0 ρ' st' a' w'→k st'=some r→next a' w'):o.wp P a w next Q:=
 UH hrun (hn ρ' _ _ _ (hR.put o.dst hd) hk)
theorem M2(h:Rel w0 F Xc ρ0 ρ st a w)(l:List Operand):∀(i:Nat) d v,(l.map (ev st))[i]?=some d→(l.map a.eval)[i]?=some v→RdD w (XB st.objs ρ Xc) ρ d v:=fun i d v h1 h2=>by
 rw[List.getElem?_map] at h1 h2
 cases hx:l[i]? with
 | none=>simp[hx] at h1
 | some x=>simp only[hx,Option.map_some,Option.some.injEq] at h1 h2;subst h1;subst h2;exact h.ev x
theorem Aw(h:Rel w0 F Xc ρ0 ρ st a w)(o:Option Operand):KN w (XB st.objs ρ Xc) ρ (o.map (ev st)) (o.map a.eval):=by
 cases o with
 | none=>trivial
 | some x=>exact h.ev x
theorem XN(h:Rel w0 F Xc ρ0 ρ st a w)(parts:Array (Nat×Operand)):
 (parts.toList.map fun p=>(p.1,ev st p.2)).length=(parts.map fun(i,x)=>(i,a.eval x)).toList.length ∧
 ∀(i:Nat) p q,(parts.toList.map fun p=>(p.1,ev st p.2))[i]?=some p→(parts.map fun(i,x)=>(i,a.eval x)).toList[i]?=some q→p.1=q.1∧RdD w (XB st.objs ρ Xc) ρ p.2 q.2:=by
 refine⟨by simp,fun i p q h1 h2=>?_⟩
 rw[Array.toList_map] at h2
 rw[List.getElem?_map] at h1 h2
 cases hx:parts.toList[i]? with
 | none=>simp[hx] at h1
 | some x=>simp only[hx,Option.map_some,Option.some.injEq] at h1 h2;subst h1;subst h2;exact⟨rfl,h.ev x.2⟩
theorem AM{f:FuncId}{args:Array Value}(h:tX P f):(callFunc f args).run P w=.ok (.enter f args) w:=by
 obtain⟨fn,h1,h2,h3⟩:=h
 unfold callFunc
 simp only[Sem.run_bind,run_program,Result.andThen_ok,h1]
 rw[if_neg (by rw[h3];simp),if_neg (by cases hb:fn.body <;> simp[hb] at h2 ⊢)]
 rfl
theorem Ej{o:Oper}{next:Act→World→Prop}{f:FuncId}{vals:List Value}{k:St→D→Option R}{k':St→Option R}(hrun:(execOp a.eval o).run P w=.ok (.enter f vals.toArray) w)
 (hc:Calls P f vals.toArray w fun e w'=>∃v ρ' st' d,e=.returned v∧Rel w0 F Xc ρ0 ρ' st' a w'∧RdD w' (XB st'.objs ρ' Xc) ρ' d v∧k st' d=some r)
 (hkk:∀st d,k st d=k' (st.put o.dst d)) (hn:∀ρ' st' a' w',Rel w0 F Xc ρ0 ρ' st' a' w'→k' st'=some r→next a' w'):o.wp P a w next Q:=by
 unfold Oper.wp
 rw[hrun]
 refine hc.mono fun e w' ⟨v,ρ',st',d,he,hR,hd,hk⟩=>?_
 subst he
 exact hn ρ' _ _ _ (hR.put o.dst hd) ((hkk st' d)▸hk)
theorem JE{o:Oper}{c:Call}{f:Operand}{next:Act→World→Prop}{k:St→Option R}(hΓ:GOK P Γ)(hG:Good P w0 F)(ho:o.op=.call c)(hc:c.callee=.value f)(h:Rel w0 F Xc ρ0 ρ st a w)
 (hk:iZ Γ st o.dst (ev st f) (c.args.toList.map (ev st)) (fun st d=>k (st.put o.dst d))=some r) (hn:∀ρ' st' a' w',Rel w0 F Xc ρ0 ρ' st' a' w'→k st'=some r→next a' w'):o.wp P a w next Q:=by
 unfold iZ at hk
 obtain⟨cc,hfe,hcc,hk1⟩:=nH (h.ev f) hk
 have hexec:execOp a.eval o=(do let d ←resolve a.eval c o.type;invoke d.target d.args):=by
  unfold execOp;rw[ho]
 split at hk1
 ·rename_i v
  split at hk1
  case h_2=>cases hk1
  rename_i g hg
  split at hk1
  case h_2=>cases hk1
  rename_i A hA
  obtain⟨hcall,hOK⟩:=hΓ g A hA
  have hv:a.eval f=.func (.func g) #[] #[]:=by
   rcases hcc with hcc | ⟨hcc,_⟩
   ·cases hcc
   ·rw[Rd.inv_v hcc]
    unfold rB at hg
    split at hg
    ·split at hg
     ·rename_i hemp
      simp only[Bool.and_eq_true,Array.isEmpty_iff] at hemp
      cases hg
      rw[hemp.1,hemp.2]
     ·cases hg
    ·cases hg
  have hinv:(execOp a.eval o).run P w=(callFunc g (c.args.toList.map a.eval).toArray).run P w:=by
   rw[hexec]
   unfold resolve
   simp only[hc,hv,Deferred.ofValue,Sem.run_bind,Sem.run_pure,Result.andThen_ok,invoke]
   congr 2
   apply Array.ext'
   simp
  split at hk1
  ·rename_i I hI
   obtain⟨y,d,h1,h2,h3⟩:=hOK.2.2 I hI _ _ _ (by simp) (M2 h _) hk1
   exact fH (by rw[hinv,h1]) h h2 h3 hn
  rename_i hext
  have hrun:(execOp a.eval o).run P w=.ok (.enter g (c.args.toList.map a.eval).toArray) w:=by rw[hinv,AM (hcall hext)]
  exact Ej hrun (NN hG hOK h (by simp) (M2 h _) hk1) (fun st d=>rfl) hn
 ·rename_i g caps
  split at hk1
  case h_2=>cases hk1
  rename_i A hA
  obtain⟨hcall,hOK⟩:=hΓ g A hA
  split at hk1
  ·cases hk1
  rename_i hext
  replace hcall:=hcall hext
  rcases hcc with hcc | ⟨⟨hs,e1,e2,e3⟩,_⟩
  ·cases hcc
  ·have hrun:(execOp a.eval o).run P w=.ok (.enter g (c.args.toList.map a.eval++hs).toArray) w:=by
    rw[hexec]
    unfold resolve
    simp only[hc,e1,Deferred.ofValue,Sem.run_bind,Sem.run_pure,Result.andThen_ok,invoke]
    rw[AM hcall]
    congr 2
    apply Array.ext'
    simp
   refine Ej hrun (NN hG hOK h (by simp[Ef,e2]) (fun i d v h1 h2=>?_) hk1) (fun st d=>rfl) hn
   rw[List.getElem?_append] at h1 h2
   simp only[List.length_map] at h1 h2
   split at h1
   ·rename_i hi
    rw[if_pos hi] at h2
    exact M2 h _ i d v h1 h2
   ·rename_i hi
    rw[if_neg hi] at h2
    simp only[Ef,List.getElem?_map] at h1
    cases hp:caps[i-c.args.toList.length]? with
    | none=>rw[hp] at h1;cases h1
    | some p=>
     simp only[hp,Option.map_some,Option.some.injEq] at h1
     subst h1
     obtain⟨hh,f1,f2⟩:=e3 _ p v hp h2
     obtain⟨ba,g1,g2⟩:=f2
     exact .one (c:=.box p.1 p.2) ⟨hh,f1,ba,g1,g2⟩ (by rw[g2];rfl)
 ·cases hk1
theorem Ek{mx:Bool}{t:TypeId}{x y:D}{vx vy:Value}{X:Nat→Prop}{k:D→Option R}(hx:RdD w X ρ x vx)(hy:RdD w X ρ y vy)(hk:NS P mx t x y k=some r)(ts:Array TypeId)(ty:TypeId):
 ∃v d,(if mx then Builtin.max_ ts ty #[vx,vy] else Builtin.min_ ts ty #[vx,vy]).run P w=.ok v w∧RdD w X ρ d v∧k d=some r:=by
 unfold NS at hk
 split at hk
 ·obtain⟨a,rfl,hk1⟩:=sT hx hk
  obtain⟨b,rfl,hk2⟩:=sT hy hk1
  refine⟨_,_,?_,.int _ _,hk2⟩
  unfold Re
  cases mx with
  | true=>exact Lib.run_max_ints w ts ty _ _ a b
  | false=>exact Lib.run_min_ints w ts ty _ _ a b
 ·obtain⟨a,rfl,hk1⟩:=uQ hx hk
  obtain⟨b,rfl,hk2⟩:=uQ hy hk1
  refine⟨_,_,?_,.str _,hk2⟩
  unfold mmS
  cases mx with
  | true=>
   have hb:∀q:Bool,(asBool (.bool q)).run P w=.ok q w:=fun _=>rfl
   simp[Builtin.max_,Builtin.max2,Op.stringOp,Rl,hb]
  | false=>
   have hb:∀q:Bool,(asBool (.bool q)).run P w=.ok q w:=fun _=>rfl
   simp[Builtin.min_,Builtin.min2,Op.stringOp,Rl,Hz,hb]
 ·cases hk
theorem Ax{o:Oper}{k:St→Option R}{next:Act→World→Prop}(hΓ:GOK P Γ)(hG:Good P w0 F)(h:Rel w0 F Xc ρ0 ρ st a w)(hk:Xp P Γ o st k=some r)
 (hn:∀ρ' st' a' w',Rel w0 F Xc ρ0 ρ' st' a' w'→k st'=some r→next a' w'):o.wp P a w next Q:=by
 unfold Xp at hk
 split at hk
 ·rename_i x ho
  exact fH (y:=a.eval x) (by unfold execOp;rw[ho];rfl) h (h.ev x) hk hn
 ·rename_i x ho
  exact fH (y:=a.eval x) (by unfold execOp;rw[ho];rfl) h (h.ev x) hk hn
 ·rename_i c x y ho
  obtain⟨b,hb,hk1⟩:=yQ (h.ev c) hk
  cases b with
  | true=>exact fH (y:=a.eval x) (by unfold execOp;rw[ho];dsimp only;rw[hb];rfl) h (h.ev x) hk1 hn
  | false=>exact fH (y:=a.eval y) (by unfold execOp;rw[ho];dsimp only;rw[hb];rfl) h (h.ev y) hk1 hn
 ·rename_i e ho
  unfold UG at hk
  have hk':∃k',qD P st o.dst e k'=some r∧∀s d,k' s d=some r→k (s.put o.dst d)=some r:=by
   split at hk
   ·exact⟨_,hk,fun _ _ h=>h⟩
   ·split at hk
    case isFalse=>cases hk
    exact⟨_,hk,fun s d h=>by
     split at h
     ·exact h
     ·cases h⟩
  obtain⟨k',hk,hkk⟩:=hk'
  obtain⟨y,w',ρ',st',d,h1,h2,h3,h4⟩:=Ih h hk
  have h4:=hkk _ _ h4
  exact fH (by unfold execOp;rw[ho];simp only[Sem.run_bind,h1,Result.andThen_ok];rfl) h2 h3 h4 hn
 ·rename_i e x ho
  obtain⟨y,w',ρ',st',d,h1,h2,h3,h4⟩:=Rp (P:=P) (e:=e) h (h.ev x) hk
  exact fH (by unfold execOp;rw[ho];simp only[Sem.run_bind,h1,Result.andThen_ok];rfl) h2 h3 h4 hn
 ·rename_i t parts ho
  obtain⟨p1,p2⟩:=XN h parts
  obtain⟨y,d,h1,h3,h4⟩:=Ii p1 p2 hk
  exact fH (by unfold execOp;rw[ho];simp only[Sem.run_bind,h1,Result.andThen_ok];rfl) h h3 h4 hn
 ·rename_i t len parts ho
  obtain⟨p1,p2⟩:=XN h parts
  unfold Xo at hk
  split at hk
  ·obtain⟨y,w',d,h1,h2,h3,h4⟩:=Ru h p1 p2 hk
   exact fH (by unfold execOp;rw[ho];simp only[Sem.run_bind,h1,Result.andThen_ok];rfl) (h.world h2) h3 h4 hn
  split at hk
  case isFalse=>cases hk
  obtain⟨y,w',ρ',st',d,h1,h2,h3,h4⟩:=NL h p1 p2 hk
  exact fH (by unfold execOp;rw[ho];simp only[Sem.run_bind,h1,Result.andThen_ok];rfl) h2 h3 h4 hn
 ·rename_i t x ho
  split at hk
  case isFalse=>cases hk
  unfold xN at hk
  have hk:zK P st t (ev st x) (fun d=>k (st.put o.dst d))=some r:=by
   split at hk
   ·exact hk
   ·split at hk
    ·exact hk
    ·cases hk
  obtain⟨d,y,h1,h3,h4⟩:=W6 h (h.ev x) hk
  exact fH (by unfold execOp;rw[ho];simp only[Sem.run_bind,h1,Result.andThen_ok];rfl) h h3 h4 hn
 ·rename_i t x v ho
  split at hk
  case isFalse=>cases hk
  obtain⟨st',w',h1,h2,h3⟩:=Id h (h.ev x) (h.ev v) hk
  unfold Oper.wp
  have hrun:(execOp a.eval o).run P w=.ok .skip w':=by unfold execOp;rw[ho];simp only[Sem.run_bind,h1,Result.andThen_ok];rfl
  rw[hrun]
  exact hn ρ _ _ _ (h2.put o.dst (.top_ _)) h3
 ·rename_i x ho
  unfold Iu at hk
  obtain⟨c,hx,hc,hk1⟩:=nH (h.ev x) hk
  have hr:=h.ev x
  have key:∀(aa:Addr),a.eval x=.pointer (some aa)→(execOp a.eval o).run P w=.ok (.value (a.eval x)) w:=fun aa e=>by
   unfold execOp;rw[ho];dsimp only;rw[e];rfl
  split at hk1
  ·rcases hc with hc | ⟨⟨v,_,ba,_,e⟩,_⟩
   ·cases hc
   ·exact fH (key _ e) h hr hk1 hn
  ·rcases hc with hc | ⟨⟨v,_,ba,_,e⟩,_⟩
   ·cases hc
   ·exact fH (key _ e) h hr hk1 hn
  ·rcases hc with hc | ⟨⟨ba,e,_⟩,_⟩
   ·cases hc
   ·exact fH (key _ e) h hr hk1 hn
  ·cases hk1
 ·rename_i op t x y yt ho
  obtain⟨d,v,h1,h3,h4⟩:=Sb (xo:=x) (yo:=y) h (h.ev x) (h.ev y) hk
  exact fH (by unfold execOp;rw[ho];simp only[Sem.run_bind] at h1 ⊢;simp only[h1,Result.andThen_ok];rfl) h h3 h4 hn
 ·rename_i op t x ho
  obtain⟨d,v,h1,h3,h4⟩:=Lg (P:=P) (w:=w) (h.ev x) hk
  exact fH (by unfold execOp;rw[ho];simp only[Sem.run_bind,h1,Result.andThen_ok];rfl) h h3 h4 hn
 ·rename_i s t x ho
  obtain⟨y,w',d,h1,h2,h3,h4⟩:=Ly h (h.ev x) hk
  exact fH (by unfold execOp;rw[ho];simp only[Sem.run_bind,h1,Result.andThen_ok];rfl) (h.world h2) h3 h4 hn
 ·rename_i fn f c ho
  obtain⟨y,d,h1,h3,h4⟩:=T8 (P:=P) (w:=w) (X:=XB st.objs ρ Xc) (ρ:=ρ) (vf:=f.map a.eval) (vc:=c.map a.eval) (by simp) (by simp) (fun i d v e1 e2=>by
   rw[Array.toList_map] at e2
   exact M2 h _ i d v e1 e2) hk
  exact fH (by unfold execOp;rw[ho];simp only[Sem.run_bind,h1,Result.andThen_ok];rfl) h h3 h4 hn
 ·rename_i t l c ho
  have hk9:∃y w' ρ' st' d,(Instr.makeSlice t (a.eval l) (a.eval c)).run P w=.ok y w'∧Rel w0 F Xc ρ0 ρ' st' a w'∧RdD w' (XB st'.objs ρ' Xc) ρ' d y∧(fun st d=>k (st.put o.dst d)) st' d=some r:=by
   have hk8:fJ Γ P st o.dst t (ev st l) (ev st c) (fun st d=>k (st.put o.dst d))=some r:=by
    unfold i0 at hk
    split at hk
    ·exact hk
    ·split at hk
     ·exact hk
     ·cases hk
   unfold fJ at hk8
   split at hk8
   ·exact An h (h.ev l) (h.ev c) hk8
   ·exact QZ h (h.ev l) (h.ev c) hk8
  obtain⟨y,w',ρ',st',d,h1,h2,h3,h4⟩:=hk9
  exact fH (by unfold execOp;rw[ho];simp only[Sem.run_bind,h1,Result.andThen_ok];rfl) h2 h3 h4 hn
 ·rename_i t x lo hi mx ho
  split at hk
  case isFalse=>cases hk
  obtain⟨y,st',d,h1,h2,h3,h4⟩:=Is (P:=P) (w:=w) h (h.ev x) (Aw h lo) (Aw h hi) (Aw h mx) hk
  exact fH (by unfold execOp;rw[ho];simp only[Sem.run_bind,h1,Result.andThen_ok];rfl) h2 h3 h4 hn
 ·rename_i t x f ho
  obtain⟨y,d,h1,h3,h4⟩:=QX (P:=P) (h.ev x) hk
  exact fH (by unfold execOp;rw[ho];simp only[Sem.run_bind,h1,Result.andThen_ok];rfl) h h3 h4 hn
 ·rename_i t x f ho
  obtain⟨y,d,h1,h3,h4⟩:=Ij (P:=P) (h.ev x) hk
  exact fH (by unfold execOp;rw[ho];simp only[Sem.run_bind,h1,Result.andThen_ok];rfl) h h3 h4 hn
 ·rename_i t x ix ho
  unfold rD at hk
  have hk:gI P st t (ev st x) (ev st ix) (fun d=>k (st.put o.dst d))=some r:=by
   split at hk
   ·exact hk
   ·split at hk
    ·exact hk
    ·cases hk
  obtain⟨y,d,h1,h3,h4⟩:=QY h (h.ev x) (h.ev ix) hk
  exact fH (by unfold execOp;rw[ho];simp only[Sem.run_bind,h1,Result.andThen_ok];rfl) h h3 h4 hn
 ·rename_i t x ix ho
  obtain⟨y,d,h1,h3,h4⟩:=Ik (P:=P) (h.ev x) (h.ev ix) hk
  exact fH (by unfold execOp;rw[ho];simp only[Sem.run_bind,h1,Result.andThen_ok];rfl) h h3 h4 hn
 ·rename_i x i ho
  obtain⟨y,d,h1,h3,h4⟩:=XA (P:=P) (h.ev x) hk
  exact fH (by unfold execOp;rw[ho];simp only[Sem.run_bind,h1,Result.andThen_ok];rfl) h h3 h4 hn
 ·rename_i b args ts ho
  split at hk
  case isFalse=>cases hk
  rename_i hgq
  clear hgq
  unfold G5 at hk
  have hexec:execOp a.eval o=builtin b ts o.type (args.map fun | .const _=>true | _=>false) (args.map a.eval):=by
   unfold execOp;rw[ho];rfl
  split at hk
  ·rename_i x t hargs hts
   have e1:∃xo,args=#[xo]∧ev st xo=x:=by
    obtain⟨l⟩:=args
    match l,hargs with
    | [xo],hargs=>simp at hargs;exact⟨xo,rfl,hargs⟩
   obtain⟨xo,rfl,rfl⟩:=e1
   have e2:ts=#[t]:=by obtain⟨l⟩:=ts;simp at hts;rw[hts]
   subst e2
   obtain⟨y,d,h1,h3,h4⟩:=Rq (ty:=o.type) h (h.ev xo) hk
   refine fH (y:=y) ?_ h h3 h4 hn
   rw[hexec]
   simp only[builtin,List.map_toArray,List.map_cons,List.map_nil,Sem.run_bind,h1,Result.andThen_ok]
   rfl
  ·rename_i s x t u hargs hts
   have e1:∃so xo,args=#[so,xo]∧ev st so=s∧ev st xo=x:=by
    obtain⟨l⟩:=args
    match l,hargs with
    | [so,xo],hargs=>simp at hargs;exact⟨so,xo,rfl,hargs⟩
   obtain⟨so,xo,rfl,rfl,rfl⟩:=e1
   have e2:ts=#[t,u]:=by obtain⟨l⟩:=ts;simp at hts;rw[hts]
   subst e2
   obtain⟨y,w',ρ',st',d,h1,h2,h3,h4⟩:=Al (ty:=o.type) h (h.ev so) (h.ev xo) hk
   refine fH (y:=y) ?_ h2 h3 h4 hn
   rw[hexec]
   simp only[builtin,List.map_toArray,List.map_cons,List.map_nil,Sem.run_bind,h1,Result.andThen_ok]
   rfl
  ·rename_i s x t u hargs hts
   have e1:∃so xo,args=#[so,xo]∧ev st so=s∧ev st xo=x:=by
    obtain⟨l⟩:=args
    match l,hargs with
    | [so,xo],hargs=>simp at hargs;exact⟨so,xo,rfl,hargs⟩
   obtain⟨so,xo,rfl,rfl,rfl⟩:=e1
   have e2:ts=#[t,u]:=by obtain⟨l⟩:=ts;simp at hts;rw[hts]
   subst e2
   obtain⟨y,w',st',d,h1,h2,h3,h4⟩:=Lz (u:=u) (ty:=o.type) h (h.ev so) (h.ev xo) hk
   refine fH (y:=y) ?_ h2 h3 h4 hn
   rw[hexec]
   simp only[builtin,List.map_toArray,List.map_cons,List.map_nil,Sem.run_bind,h1,Result.andThen_ok]
   rfl
  ·rename_i x y t u hargs hts
   have e1:∃so xo,args=#[so,xo]∧ev st so=x∧ev st xo=y:=by
    obtain⟨l⟩:=args
    match l,hargs with
    | [so,xo],hargs=>simp at hargs;exact⟨so,xo,rfl,hargs⟩
   obtain⟨so,xo,rfl,rfl,rfl⟩:=e1
   obtain⟨v,d,h1,h3,h4⟩:=Ek (h.ev so) (h.ev xo) hk ts o.type
   refine fH (y:=v) ?_ h h3 h4 hn
   rw[hexec]
   simp only[Bool.false_eq_true,if_false] at h1
   simp only[builtin,List.map_toArray,List.map_cons,List.map_nil,Sem.run_bind,h1,Result.andThen_ok]
   rfl
  ·rename_i x y t u hargs hts
   have e1:∃so xo,args=#[so,xo]∧ev st so=x∧ev st xo=y:=by
    obtain⟨l⟩:=args
    match l,hargs with
    | [so,xo],hargs=>simp at hargs;exact⟨so,xo,rfl,hargs⟩
   obtain⟨so,xo,rfl,rfl,rfl⟩:=e1
   obtain⟨v,d,h1,h3,h4⟩:=Ek (h.ev so) (h.ev xo) hk ts o.type
   refine fH (y:=v) ?_ h h3 h4 hn
   rw[hexec]
   simp only[if_true] at h1
   simp only[builtin,List.map_toArray,List.map_cons,List.map_nil,Sem.run_bind,h1,Result.andThen_ok]
   rfl
  ·cases hk
 ·rename_i f args ts ho
  unfold Eg at hk
  split at hk
  case isFalse=>cases hk
  unfold Au at hk
  split at hk
  ·exact JE (f:=f) hΓ hG ho rfl h hk hn
  ·rename_i B _
   split at hk
   ·exact JE (f:=f) hΓ hG ho rfl h hk hn
   split at hk
   ·exact JE (f:=f) (k:=fun s:St=>if W2 (B7 Γ) st.objs s.objs=true then k s else none) hΓ hG ho rfl h hk fun ρ' st' a' w' hR hk'=>hn ρ' st' a' w' hR (by
     split at hk'
     ·exact hk'
     ·cases hk')
   ·cases hk
 ·cases hk
end
section
variable {R:Type} {P:Program} {Γ:FuncId→Option Callee} {w0 w:World} {F Xc:Nat→Prop} {ρ0:Base} {ρ:gU} {st:St} {a:Act} {r:R} {Q:Exit→Act→World→Prop}
theorem Rel.slot(h:Rel w0 F Xc ρ0 ρ st a w){t:Nat}{d:D}(hd:∀y,a.tmps[t]?=some y→RdD w (XB st.objs ρ Xc) ρ d y):Rel w0 F Xc ρ0 ρ (st.put (some t) d) a w:=by
 refine⟨by simpa[St.put] using h.len,fun i d' y h1 h2=>?_,h.objs,h.sep,h.own,h.par,h.defers,h.frame,h.xcl,h.xc,h.ext⟩
 simp only[St.put,List.getElem?_set] at h1
 by_cases hit:t=i
 ·subst hit
  rw[if_pos rfl] at h1
  split at h1
  ·cases h1;exact hd y h2
  ·cases h1
 ·rw[if_neg hit] at h1
  exact h.env i d' y h1 h2
theorem Ay{X:Nat→Prop}:RdD w X ρ Q2 undef:=⟨#[],rfl,rfl,fun i s y h=>by cases h⟩
theorem oI{ops:Array Oper}{tail:List Nat}(hΓ:GOK P Γ)(hG:Good P w0 F):∀(l:List Nat) {ρ:gU} {st:St} {a:Act} {w:World} {k:St→Option R},Rel w0 F Xc ρ0 ρ st a w→CO P Γ ops l st k=some r →
 (∀ρ' st' a' w',Rel w0 F Xc ρ0 ρ' st' a' w'→k st'=some r→wpOps P ops Q tail a' w')→wpOps P ops Q (l++tail) a w
 | [],ρ,st,a,w,k,h,hk,hn=>hn ρ st a w h hk
 | i::rest,ρ,st,a,w,k,h,hk,hn=>by
  simp only[CO] at hk
  simp only[List.cons_append,wpOps]
  split at hk
  ·rename_i ho
   simp only[ho]
   exact oI hΓ hG rest h hk hn
  ·rename_i o ho
   simp only[ho]
   split at hk
   ·rename_i hg
    have hw:Region.wanted o (yielded ops a.tmps)=true:=by simp[Region.wanted,hg]
    rw[if_pos hw]
    exact .inl (Ax hΓ hG h hk fun ρ' st' a' w' hR hk'=>oI hΓ hG rest hR hk' hn)
   ·rename_i j want hg
    split at hk
    case h_1=>cases hk
    rename_i t hdst
    have hr:=h.ev (.tmp t)
    have hev:ev st (.tmp t)=st.env.getD t D.top:=rfl
    rw[hev] at hr
    unfold Iv at hk
    split at hk
    case h_1=>
     rename_i hoff
     rw[hoff] at hr
     obtain⟨vs,hvs,hl,_⟩:=hr
     have hu:a.eval (.tmp t)=.tuple #[]:=by
      rw[hvs]
      have:vs=#[]:=by simpa using hl
      rw[this]
     have hw:Region.wanted o (yielded ops a.tmps)=false:=by
      have hy:yielded ops a.tmps j=none:=by
       simp only[yielded,hdst,Option.bind_some]
       cases hc:a.tmps[t]? with
       | none=>rfl
       | some y=>
        have:a.eval (.tmp t)=y:=by simp[Act.eval,Array.getD_eq_getD_getElem?,hc]
        rw[this] at hu
        subst hu;rfl
      simp[Region.wanted,hg,hy]
     rw[if_neg (by rw[hw];decide)]
     exact oI hΓ hG rest (h.put o.dst Ay) hk hn
    obtain⟨b,hb,hk1⟩:=yQ hr hk
    have hlt:t<a.tmps.size:=by
     apply Classical.byContradiction
     intro hge
     have:a.eval (.tmp t)=undef:=by simp[Act.eval,Array.getD_eq_getD_getElem?,Array.getElem?_eq_none (Nat.le_of_not_lt hge)]
     rw[this] at hb
     cases hb
    have hat:a.tmps[t]?=some (.bool b):=by
     have:a.eval (.tmp t)=a.tmps[t]:=by simp[Act.eval,Array.getD_eq_getD_getElem?,Array.getElem?_eq_getElem hlt]
     rw[Array.getElem?_eq_getElem hlt,←this,hb]
    have hw:Region.wanted o (yielded ops a.tmps)=(b==want):=by
     simp only[Region.wanted,hg,yielded,hdst,Option.bind_some,hat]
     cases b <;> cases want <;> rfl
    have hslot:Rel w0 F Xc ρ0 ρ (st.put (some t) (dB b)) a w:=h.slot fun y hy=>by
     rw[hat] at hy;cases hy;exact .bool b
    cases b with
    | true=>
     simp only[cond_true] at hk1
     cases want with
     | true=>
      rw[if_pos rfl] at hk1
      rw[if_pos (show Region.wanted o (yielded ops a.tmps)=true from hw)]
      exact .inl (Ax hΓ hG hslot hk1 fun ρ' st' a' w' hR hk'=>oI hΓ hG rest hR hk' hn)
     | false=>
      rw[if_neg (by decide)] at hk1
      rw[if_neg (by rw[hw];decide)]
      exact oI hΓ hG rest (hslot.put o.dst Ay) hk1 hn
    | false=>
     simp only[cond_false] at hk1
     cases want with
     | true=>
      rw[if_pos rfl] at hk1
      rw[if_neg (by rw[hw];decide)]
      exact oI hΓ hG rest (hslot.put o.dst Ay) hk1 hn
     | false=>
      rw[if_neg (by decide)] at hk1
      rw[if_pos (show Region.wanted o (yielded ops a.tmps)=true from hw)]
      exact .inl (Ax hΓ hG hslot hk1 fun ρ' st' a' w' hR hk'=>oI hΓ hG rest hR hk' hn)
theorem UI{ops:Array Oper}(hΓ:GOK P Γ)(hG:Good P w0 F)(l:List Nat){ρ:gU}{st:St}{a:Act}{w:World}{k:St→Option R}(h:Rel w0 F Xc ρ0 ρ st a w)(hk:CO P Γ ops l st k=some r)
 (hn:∀ρ' st' a' w',Rel w0 F Xc ρ0 ρ' st' a' w'→k st'=some r→Q .normal a' w'):wpOps P ops Q l a w:=by
 have:=oI (Q:=Q) (tail:=[]) hΓ hG l h hk hn
 rwa[List.append_nil] at this
end
inductive Sh where
 | int (k:IntKind)
 | bool
 | str
 | sl (n:Nat)
 | row (e:TypeId) (n:Nat) (key:Nat)
 | rr (e e2:TypeId) (n:Nat) (key:Nat)
 | tree
 | lit (c:C)
def Sh.ty:Sh→Type
 | .int _=>Int
 | .bool=>Bool
 | .str=>ByteArray
 | .sl _=>List T
 | .row _ _ _=>List T
 | .rr _ _ _ _=>List (List T)
 | .tree=>T
 | .lit _=>Unit
def sH:List Sh→Type
 | []=>Unit
 | s::l=>s.ty×sH l
inductive It where
 | slot (i:Nat)
 | aggs (i n:Nat)
 | box (k n:Nat)
 | boxr (i k n:Nat)
structure Hint where
 items:List It
 shapes:List Sh
def SS(σ:List (Nat×Nat)):List (Nat×Nat)→List (Nat×Nat)→Bool
 | [],[]=>true
 | p::l,q::m=>σ.contains (p.1,q.1)&&p.2==q.2&&SS σ l m
 | _,_=>false
def C.same(σ:List (Nat×Nat)):C→C→Bool
 | _,.top=>true
 | .box k j,.box k' j'=>σ.contains (k,k')&&j==j'
 | .row k,.row k'=>σ.contains (k,k')
 | .fn f l,.fn f' l'=>f==f'&&SS σ l l'
 | .self u,.self u'=>u==u'
 | .t (.v v),.t (.v v')=>match rB v,rB v' with
  | some f,some f'=>f==f'
  | _,_=>false
 | _,_=>false
section
variable {R:Type}
@[irreducible] def xO(m:Nat)(l:List (List T)):List T:=l.map (T.sl m)
@[irreducible] def XO(m:Nat)(l:List (List T)):List T:=l.map fun r=>.agg [r.headD (.agg []),.sl m r.tail]
def Xq(e:TypeId):Nat:=if e<1000000000 then 1 else e
def Md(e:TypeId)(m:Nat)(l:List (List T)):List T:=if e<1000000000 then xO m l else XO m l
def G6(σ:List (Nat×Nat))(objs:List O)(s:Sh)(c:C)(f:s.ty→List (Option Nat)→List Nat→Option R):Option R:=match s with
 | .int k=>match c with
  | .t x=>ob (x.int? k) fun n=>f n [] []
  | _=>none
 | .bool=>match c with
  | .t x=>ob x.bool? fun b=>f b [] []
  | _=>none
 | .str=>match c with
  | .t x=>ob x.str? fun s=>f s [] []
  | _=>none
 | .sl n=>match c with
  | .t x=>ob (x.sl? n) fun l=>f l [] []
  | .row key=>match objs[key]? with
   | some (.row _ _ n' es)=>if n'=n then f es [] [key] else none
   | some (.mp _ _ n' es)=>if n'=n then f es [] [key] else none
   | _=>none
  | .cut key m lo len _=>match objs[key]? with
   | some (.row _ _ n' es)=>if n'=n∧m=n then f (iM es lo len) [] [key] else none
   | _=>none
  | .rk k0=>match xI objs 64 k0 with
   | some K=>match objs[K]? with
    | some (.rr none e1 _ m l)=>if n=Xq e1 then f (Md e1 m l) [] [K] else none
    | _=>none
   | none=>none
  | _=>none
 | .rr e e2 n _=>match c with
  | .rk k0=>match xI objs 64 k0 with
   | some K=>match objs[K]? with
    | some (.rr none e' e2' n' l)=>if e'=e∧e2'=e2∧n'=n then f l [some K] [] else none
    | _=>none
   | none=>none
  | _=>none
 | .row e n _=>match c with
  | .t (.v (.slice none 0 0))=>if 0<n∧n<1000000000 then f [] [none] [] else none
  | .row key=>match objs[key]? with
   | some (.row false e' n' es)=>if n<1000000000∧e'=e∧n'=n then f es [some key] [] else none
   | some (.mp false e' n' es)=>if (1000000000≤n∧n<2000000000)∧e'=e∧n'=n then f es [some key] [] else none
   | some (.itr none e' n' es)=>if 2000000000≤n∧e'=e∧n'=n then f es [some key] [] else none
   | _=>none
  | _=>none
 | .tree=>match c with
  | .t x=>f x [] []
  | _=>none
 | .lit c'=>if c.same σ c' then f () [] [] else none
def JF(σ:List (Nat×Nat))(objs:List O):(l:List Sh)→List C→(sH l→List (Option Nat)→List Nat→Option R)→Option R
 | [],[],f=>f () [] []
 | s::l,c::cs,f=>G6 σ objs s c fun x rs zs=>JF σ objs l cs fun t rs' zs'=>f (x,t) (rs++rs') (zs++zs')
 | _,_,_=>none
end
def Sc:(s:Sh)→s.ty→C
 | .int k,n=>.t (.v (.int k n))
 | .bool,b=>.t (.v (.bool b))
 | .str,s=>.t (.v (.string s))
 | .sl n,l=>.t (.sl n l)
 | .row _ _ key,_=>.row key
 | .rr _ _ _ key,_=>.rk key
 | .tree,x=>.t x
 | .lit c,_=>c
def yU:(l:List Sh)→sH l→List C
 | [],_=>[]
 | s::l,t=>Sc s t.1::yU l t.2
def fK:(l:List Sh)→sH l→List (Nat×O)
 | [],_=>[]
 | .row e n key::l,t=>(key,NB e n t.1)::fK l t.2
 | .rr e e2 n key::l,t=>(key,.rr none e e2 n t.1)::fK l t.2
 | _::l,t=>fK l t.2
def eV(st:St):List It→Option (List C)
 | []=>some []
 | .slot i::l=>match st.env.getD i D.top,eV st l with
  | .s (.c c),some cs=>some (c::cs)
  | _,_=>none
 | .aggs i n::l=>match st.env.getD i D.top,eV st l with
  | .s (.agg a),some cs=>if a.length=n then some (a++cs) else none
  | _,_=>none
 | .box k n::l=>match st.objs[k]?,eV st l with
  | some (.box a),some cs=>if a.length=n then some (a++cs) else none
  | _,_=>none
 | .boxr i _ n::l=>match st.env.getD i D.top,eV st l with
  | .s (.c (.box key 0)),some cs=>match st.objs[key]? with
   | some (.box a)=>if a.length=n then some (a++cs) else none
   | _=>none
  | _,_=>none
def cS(st:St):List It→List (Nat×Nat)
 | []=>[]
 | .box k _::l=>(k,k)::cS st l
 | .boxr i k _::l=>match st.env.getD i D.top with
  | .s (.c (.box key 0))=>(key,k)::cS st l
  | _=>cS st l
 | _::l=>cS st l
def dQ:List Sh→List C→List (Nat×Nat)
 | .row _ _ key::l,.row k::cs=>(k,key)::dQ l cs
 | _::l,_::cs=>dQ l cs
 | _,_=>[]
def dH:List It→List C→St→St
 | [],_,st=>st
 | .slot i::l,cs,st=>dH l cs.tail { st with env:=st.env.set i (.s (.c (cs.headD .top))) }
 | .aggs i n::l,cs,st=>dH l (cs.drop n) { st with env:=st.env.set i (.s (.agg (cs.take n))) }
 | .box k n::l,cs,st=>dH l (cs.drop n) { st with objs:=st.objs.set k (.box (cs.take n)) }
 | .boxr i k n::l,cs,st=>dH l (cs.drop n) { st with env:=st.env.set i (.s (.c (.box k 0))),objs:=st.objs.set k (.box (cs.take n)) }
def lV(objs:List O):List (Nat×O)→List O
 | []=>objs
 | p::l=>lV (objs.set p.1 p.2) l
def dJ:List It→List Nat
 | []=>[]
 | .box k _::l=>k::dJ l
 | .boxr _ k _::l=>k::dJ l
 | _::l=>dJ l
def bV:List Sh→List Nat
 | []=>[]
 | .row _ _ key::l=>key::bV l
 | .rr _ _ _ key::l=>key::bV l
 | _::l=>bV l
def iI(np n m:Nat):St:={ np:=np,env:=List.replicate n D.top,objs:=List.replicate np .dead++List.replicate (m-np) .fresh }
def cW(h:Hint)(np n m:Nat)(t:sH h.shapes):St:=
 let st:=dH h.items (yU h.shapes t) (iI np n m)
 { st with objs:=lV st.objs (fK h.shapes t) }
def Hint.ok(h:Hint)(m:Nat):Bool:=
 let bs:=dJ h.items
 let rs:=bV h.shapes
 (bs++rs).all (fun k=>k<m)&&decide ((bs++rs).Nodup)
def UJ(np:Nat):List Nat→List (Option Nat)→Bool
 | k::ks,s::ss=>(decide (np≤k)||s==some k)&&UJ np ks ss
 | _,_=>true
def E4{R:Type}(h:Hint)(st:St)(f:sH h.shapes→Option R):Option R:=match eV st h.items with
 | some cs=>let bp:=cS st h.items
  JF (bp++dQ h.shapes cs) st.objs h.shapes cs fun t rs zs=>if h.ok st.objs.length&&UJ st.np (bV h.shapes) rs&&bp.all (fun p=>p.1==p.2||decide (st.np≤p.2))&&decide ((bp.map (·.1)).Nodup)&&decide (rs.filterMap id).Nodup&&zs.all (fun z=>!rs.contains (some z))&&decide (st.np≤st.objs.length) then f t else none
 | none=>none
section
variable {R:Type} {w0 w:World} {F Xc X'':Nat→Prop} {ρ0:Base} {ρ ρ'':gU} {st:St} {a:Act} {r:R}
def CP:List Nat→List (Option Nat)→Nat→Option (Option Nat)
 | k::ks,s::ss,j=>if k=j then some s else CP ks ss j
 | _,_,_=>none
def Xr:Value:=.slice none 0 0
def hOf(ρ:gU):Option Nat→Option Value
 | some k=>ρ k
 | none=>some Xr
theorem ST:∀(ks:List Nat) (ss:List (Option Nat)) (i:Nat) (k:Nat) (s:Option Nat),ks.Nodup→ks[i]?=some k→ss[i]?=some s→CP ks ss k=some s
 | [],_,i,k,s,_,h,_=>by simp at h
 | k'::ks,[],i,k,s,_,_,h=>by simp at h
 | k'::ks,s'::ss,i,k,s,hn,h1,h2=>by
  obtain⟨hk,hn'⟩:=List.nodup_cons.1 hn
  cases i with
  | zero=>simp at h1 h2;subst h1;subst h2;simp[CP]
  | succ i=>
   simp at h1 h2
   have:k'≠k:=fun e=>hk (e▸List.mem_of_getElem? h1)
   simp only[CP,if_neg this]
   exact ST ks ss i k s hn' h1 h2
theorem NW:∀(ks:List Nat) (ss:List (Option Nat)) (k:Nat) (s:Option Nat),CP ks ss k=some s→∃i:Nat,ks[i]?=some k∧ss[i]?=some s
 | [],_,k,s,h=>by simp[CP] at h
 | k'::ks,[],k,s,h=>by simp[CP] at h
 | k'::ks,s'::ss,k,s,h=>by
  simp only[CP] at h
  split at h
  ·rename_i e;cases h;exact⟨0,by simp[e],rfl⟩
  ·obtain⟨i,h1,h2⟩:=NW ks ss k s h
   exact⟨i+1,by simpa using h1,by simpa using h2⟩
structure Turn (ρ ρ'':gU) (X X'':Nat→Prop) (objs:List O) (keys:List Nat) (src:List (Option Nat)) (zs:List Nat) (σ:List (Nat×Nat)):Prop where
 sub:∀b,X'' b→X b
 len:keys.length=src.length
 rows:∀(i:Nat) k s,keys[i]?=some k→src[i]?=some s→ρ'' k=hOf ρ s
 trees:∀z∈zs,∀v b,ρ z=some v→blkIn v b→¬X'' b
 lit:∀p∈σ,∀v,ρ p.1=some v→ρ'' p.2=some v
theorem NX{v:Value}{f:FuncId}(h:rB v=some f):v=.func (.func f) #[] #[]:=by
 unfold rB at h
 split at h
 ·split at h
  ·rename_i hemp
   simp only[Bool.and_eq_true,Array.isEmpty_iff] at hemp
   cases h
   rw[hemp.1,hemp.2]
  ·cases h
 ·cases h
theorem XP{σ:List (Nat×Nat)}(hl:∀p∈σ,∀v,ρ p.1=some v→ρ'' p.2=some v):∀{l m:List (Nat×Nat)} {vs:List Value},SS σ l m=true→vs.length=l.length →
 (∀(i:Nat) p v,l[i]?=some p→vs[i]?=some v→∃h,ρ p.1=some h∧NC h p.2 v)→vs.length=m.length∧∀(i:Nat) p v,m[i]?=some p→vs[i]?=some v→∃h,ρ'' p.1=some h∧NC h p.2 v
 | [],[],vs,_,hv,h=>⟨hv,fun i p v h1 _=>by simp at h1⟩
 | p::l,q::m,[],_,hv,h=>by simp at hv
 | p::l,q::m,v::vs,hc,hv,h=>by
  simp only[SS,Bool.and_eq_true,beq_iff_eq,List.contains_iff_mem] at hc
  obtain⟨⟨h1,h2⟩,h3⟩:=hc
  obtain⟨r1,r2⟩:=XP hl h3 (vs:=vs) (by simpa using hv) (fun i p v e1 e2=>h (i+1) p v (by simpa using e1) (by simpa using e2))
  refine⟨by simp[r1],fun i p' v' e1 e2=>?_⟩
  cases i with
  | zero=>
   simp at e1 e2
   subst e1;subst e2
   obtain⟨hh,f1,f2⟩:=h 0 p v rfl rfl
   exact⟨hh,hl _ h1 hh f1,by rw[←h2];exact f2⟩
  | succ i=>exact r2 i p' v' (by simpa using e1) (by simpa using e2)
 | [],_::_,_,hc,_,_=>by simp[SS] at hc
 | _::_,[],_,hc,_,_=>by simp[SS] at hc
theorem Sd{X:Nat→Prop}{σ:List (Nat×Nat)}{c c':C}{y:Value}(hX:∀b,X'' b→X b)(hl:∀p∈σ,∀v,ρ p.1=some v→ρ'' p.2=some v)(hs:c.same σ c'=true)(h:RdC1 w X ρ c y):RdC1 w X'' ρ'' c' y:=by
 unfold C.same at hs
 split at hs
 ·exact .inl rfl
 ·simp only[Bool.and_eq_true,beq_iff_eq,List.contains_iff_mem] at hs
  obtain⟨h0,rfl⟩:=hs
  rcases h with h | ⟨⟨v,e1,e2⟩,h1⟩
  ·cases h
  ·exact .inr ⟨⟨v,hl _ h0 v e1,e2⟩,h1⟩
 ·simp only[List.contains_iff_mem] at hs
  rcases h with h | ⟨h,h1⟩
  ·cases h
  ·exact .inr ⟨hl _ hs _ h,h1⟩
 ·simp only[Bool.and_eq_true,beq_iff_eq] at hs
  obtain⟨rfl,hc⟩:=hs
  rcases h with h | ⟨⟨vs,e1,e2,e3⟩,h1⟩
  ·cases h
  ·obtain⟨r1,r2⟩:=XP hl hc e2 e3
   exact .inr ⟨⟨vs,e1,r1,r2⟩,h1⟩
 ·rcases h with h | ⟨h,h1⟩
  ·cases h
  ·exact .inr ⟨trivial,h1⟩
 ·split at hs
  ·rename_i f f' e1 e2
   have:=beq_iff_eq.1 hs
   subst this
   rw[NX e1] at h
   rw[NX e2]
   rcases h with h | ⟨h,h1⟩
   ·cases h
   ·exact .inr ⟨by have:=Rd.inv_v h;subst this;exact .v _,h1⟩
  ·cases hs
 ·cases hs
theorem Sf{X X'':Nat→Prop}{hole:Option Nat}{e e2:TypeId}{n:Nat}{l:List (List T)}{vs:Array Value}{v:Value}(h:okR w X hole e e2 n l (.tuple vs))(hv:vs[0]?=some v)(hX:∀b,X'' b→X b)(hb:∀b,blkIn (.tuple vs) b→¬X'' b)
 (hh:hole=none) (hesm:e<1000000000):Rd w X'' (.sl 1 (xO n l)) v:=by
 subst hh
 obtain⟨h0,ho,hs,xs,g1,g2,g3,g4,g5,g6⟩:=h
 cases g1
 have:ho=v:=by simpa using hv
 subst this
 have hlen:(xO n l).length=l.length:=by unfold xO;simp
 have hget:∀(i:Nat) t,(xO n l)[i]?=some t→∃m,l[i]?=some m∧t=.sl n m:=fun i t hi=>by
  unfold xO at hi
  rw[List.getElem?_map] at hi
  cases hl:l[i]? with
  | none=>simp[hl] at hi
  | some m=>simp only[hl,Option.map_some,Option.some.injEq] at hi;exact⟨m,rfl,hi.symm⟩
 have hflat:flat (xO n l)=xO n l:=NJ fun t ht=>by
  obtain⟨i,hi,rfl⟩:=List.getElem_of_mem ht
  obtain⟨m,_,e⟩:=hget i _ (List.getElem?_eq_getElem hi)
  rw[e];rfl
 have huni:Uni 1 (xO n l):=fun t ht=>by
  obtain⟨i,hi,rfl⟩:=List.getElem_of_mem ht
  obtain⟨m,_,e⟩:=hget i _ (List.getElem?_eq_getElem hi)
  rw[e];rfl
 replace g2:rowAt w e 1 ho l.length xs:=by
  rcases g2 with⟨_,g2⟩ | ⟨g2,_⟩
  ·exact g2
  ·exact(Nat.not_lt.2 g2 hesm).elim
 have hxl:=g2.1
 rw[Nat.mul_one] at hxl
 have inner:∀(i:Nat) t y,(xO n l)[i]?=some t→xs[i]?=some y→Rd w X'' t y:=fun i t y h1 h2=>by
  obtain⟨m,hm,rfl⟩:=hget i t h1
  have hil:i<l.length:=(List.getElem?_eq_some_iff.1 hm).1
  have hsi:hs[i]?=some hs[i]:=List.getElem?_eq_getElem (by omega)
  have e1:=(g4 i y _ h2 hsi).2 (by simp)
  rw[←e1] at hsi
  obtain⟨q1,ys,q2,q3⟩:=g5 i m y hm hsi
  rw[Dt hesm] at q1 q2 q3
  exact wG (ρ:=fun _=>none) (X:=X) (fz:=false) (e:=e2) (l:=m) ⟨h0,q1,⟨ys,q2,q3⟩,fun hc=>by cases hc⟩ hX (fun b hyb=>hb b (.inr ⟨_,rfl,y,by simp[List.mem_of_getElem? hsi],hyb⟩))
 rcases g2.2 with⟨hn | ⟨a,hn⟩,hz⟩ | ⟨g,off,cap,cur,hn,z2,z3,z4,z5,z6,z7⟩
 ·have:l=[]:=List.eq_nil_of_length_eq_zero hz
  subst this
  subst hn
  have:xO n []=[]:=by unfold xO;rfl
  rw[this];exact .nil 1 (by omega)
 ·have:l=[]:=List.eq_nil_of_length_eq_zero hz
  subst this
  subst hn
  have:xO n []=[]:=by unfold xO;rfl
  rw[this]
  have key:Rd w X'' (.sl 1 []) (.slice (some a) ([]:List T).length 0):=.sl 1 [] a 0 [] (by omega) (Nat.le_refl _) (by unfold maxLen;omega) (.nil 1) rfl (fun i y h=>by simp at h) (fun i t y h _=>by simp[flat] at h)
  exact key
 ·subst hn
  rw[←hlen]
  refine .sl 1 _ ⟨g,off,none⟩ cap xs (by omega) (by omega) z5 huni (by rw[hflat,hlen,hxl]) (fun i y hi=>?_) (fun i t y h1 h2=>inner i t y (by rw[←hflat];exact h1) h2)
  have hil:i<l.length:=by have:=(List.getElem?_eq_some_iff.1 hi).1;omega
  refine⟨g2.cells rfl i y hi,?_,(g4 i y _ hi (List.getElem?_eq_getElem (by omega))).1⟩
  exact hb g (.inr ⟨_,rfl,.slice (some ⟨g,off,none⟩) l.length cap,by simp,by simp[blk];omega⟩)
theorem Xs{X X'':Nat→Prop}{hole:Option Nat}{e e2:TypeId}{n:Nat}{l:List (List T)}{vs:Array Value}{v:Value}(h:okR w X hole e e2 n l (.tuple vs))(hv:vs[0]?=some v)(hX:∀b,X'' b→X b)(hb:∀b,blkIn (.tuple vs) b→¬X'' b)
 (hh:hole=none) (hbig:1000000000≤e):Rd w X'' (.sl e (XO n l)) v:=by
 subst hh
 have hcc:e=(e-1000000000)+1000000000:=(Nat.sub_add_cancel hbig).symm
 have h0:=h.1
 obtain⟨hs,g,es,clock,rfl,rfl,hg,hl,hhs,hkeys,hone,hcl,hborn,hval,hrow,hsep⟩:=h.map hv hcc
 have hget:∀(i:Nat) t,(XO n l)[i]?=some t→∃m,l[i]?=some m∧t=.agg [m.headD (.agg []),.sl n m.tail]:=fun i t hi=>by
  unfold XO at hi
  rw[List.getElem?_map] at hi
  obtain⟨m,h1,h2⟩:=Option.map_eq_some_iff.1 hi
  exact⟨m,h1,h2.symm⟩
 refine .mp e _ g es clock hbig hg (hb g (.inr ⟨_,rfl,.map (some g),by simp,rfl⟩)) (by unfold XO;simpa using hl) (fun i t en h1 h2=>?_) ⟨hcl,hborn⟩ (fun i k v en h1 h2=>?_)
 ·obtain⟨m,hm,rfl⟩:=hget i t h1
  obtain⟨k,m',rfl,hk⟩:=hkeys i m en hm h2
  exact⟨k,_,rfl,hk,.inr (hone i en h2)⟩
 ·obtain⟨m,hm,e1⟩:=hget i _ h1
  simp only[T.agg.injEq,List.cons.injEq,and_true] at e1
  obtain⟨_,rfl⟩:=e1
  have hil:i<l.length:=(List.getElem?_eq_some_iff.1 hm).1
  have hsi:hs[i]?=some hs[i]:=List.getElem?_eq_getElem (by omega)
  have e1:=hval i en _ h2 hsi (by simp)
  rw[←e1] at hsi
  obtain⟨q1,ys,q2,q3⟩:=hrow i m en.val hm hsi
  have hrw:W1 e m=m.tail:=by unfold W1 Lc;rw[if_neg (Nat.not_lt.2 hbig)]
  rw[hrw] at q1 q2 q3
  exact wG (ρ:=fun _=>none) (X:=X) (fz:=false) (e:=e2) (l:=m.tail) ⟨h0,q1,⟨ys,q2,q3⟩,fun hc=>by cases hc⟩ hX (fun b hyb=>hb b (.inr ⟨_,rfl,en.val,by simp[List.mem_of_getElem? hsi],hyb⟩))
theorem Sg{X X'':Nat→Prop}{hole:Option Nat}{e e2:TypeId}{n:Nat}{l:List (List T)}{vs:Array Value}{v:Value}(h:okR w X hole e e2 n l (.tuple vs))(hv:vs[0]?=some v)(hX:∀b,X'' b→X b)(hb:∀b,blkIn (.tuple vs) b→¬X'' b)
 (hh:hole=none:=by rfl):Rd w X'' (.sl (Xq e) (Md e n l)) v:=by
 unfold Xq Md
 split
 ·rename_i hlt
  exact Sf h hv hX hb hh hlt
 ·rename_i hge
  exact Xs h hv hX hb hh (Nat.not_lt.1 hge)
theorem Si{σ:List (Nat×Nat)}{s:Sh}{c:C}{f:s.ty→List (Option Nat)→List Nat→Option R}(h:Rel w0 F Xc ρ0 ρ st a w)(hf:G6 σ st.objs s c f=some r):
 ∃x rs zs,f x rs zs=some r∧rs.length=(bV [s]).length ∧
  (∀(i:Nat) k o,(fK [s] (x,()))[i]?=some (k,o)→(bV [s])[i]?=some k∧∃sr,rs[i]?=some sr∧o.rowf=true∧(∀k',sr=some k'→st.objs[k']?=some o)∧(sr=none→∃e n,o=.row false e n []∧(0<n∧n<1000000000))) ∧
  (∀z∈zs,∃o,st.objs[z]?=some o∧o.giv=true)∧(∀p∈dQ [s] [c],bV [s]=[p.2]∧rs=[some p.1]) ∧
  ∀(ρ'':gU) (X'':Nat→Prop),Turn ρ ρ'' (XB st.objs ρ Xc) X'' st.objs (bV [s]) rs zs σ→∀y,RdC1 w (XB st.objs ρ Xc) ρ c y→RdC1 w X'' ρ'' (Sc s x) y:=by
 have norow:∀{P:Nat→Nat→O→Prop},∀(i:Nat) k o,([]:List (Nat×O))[i]?=some (k,o)→P i k o:=fun i k o h=>by simp at h
 cases s with
 | int kd=>
  simp only[G6] at hf
  split at hf
  ·rename_i x
   obtain⟨n,hn,hf⟩:=aX hf
   refine⟨n,[],[],hf,rfl,norow,by simp,by simp[dQ],fun ρ'' X'' _ y hy=>?_⟩
   rcases hy with hy | ⟨hy,h1⟩
   ·cases hy
   ·have:=Ac hy hn;subst this;exact .inr ⟨.v _,rfl⟩
  ·cases hf
 | bool=>
  simp only[G6] at hf
  split at hf
  ·rename_i x
   obtain⟨n,hn,hf⟩:=aX hf
   refine⟨n,[],[],hf,rfl,norow,by simp,by simp[dQ],fun ρ'' X'' _ y hy=>?_⟩
   rcases hy with hy | ⟨hy,h1⟩
   ·cases hy
   ·have:=T3 hy hn;subst this;exact .inr ⟨.v _,rfl⟩
  ·cases hf
 | str=>
  simp only[G6] at hf
  split at hf
  ·rename_i x
   obtain⟨n,hn,hf⟩:=aX hf
   refine⟨n,[],[],hf,rfl,norow,by simp,by simp[dQ],fun ρ'' X'' _ y hy=>?_⟩
   rcases hy with hy | ⟨hy,h1⟩
   ·cases hy
   ·have:=Ad hy hn;subst this;exact .inr ⟨.v _,rfl⟩
  ·cases hf
 | sl n=>
  simp only[G6] at hf
  split at hf
  ·rename_i x
   obtain⟨l,hl,hf⟩:=aX hf
   refine⟨l,[],[],hf,rfl,norow,by simp,by simp[dQ],fun ρ'' X'' ht y hy=>?_⟩
   rcases hy with hy | ⟨hy,h1⟩
   ·cases hy
   ·unfold T.sl? at hl
    split at hl
    ·split at hl
     case isFalse=>cases hl
     rename_i hnm
     cases hl
     have:=Rd.inv_v hy
     subst this
     exact .inr ⟨.nil n hnm,rfl⟩
    ·split at hl
     ·rename_i hk
      cases hl;subst hk
      exact .inr ⟨Rd.weak hy ht.sub,h1⟩
     ·cases hl
    ·cases hl
  ·rename_i key
   split at hf
   ·rename_i fz e n' es hob
    split at hf
    ·rename_i hn
     subst hn
     refine⟨es,[],[key],hf,rfl,norow,fun z hz=>by simp at hz;subst hz;exact⟨_,hob,rfl⟩,by simp[dQ],fun ρ'' X'' ht y hy=>?_⟩
     rcases hy with hy | ⟨hy,h1⟩
     ·cases hy
     ·obtain⟨v,e1,e2⟩:=h.objs key _ hob
      have hyy:ρ key=some y:=hy
      rw[hyy] at e1
      cases e1
      exact .inr ⟨wG e2 ht.sub (fun b hb=>ht.trees key (by simp) y b hyy (.inl hb)),h1⟩
    ·cases hf
   ·rename_i fz e n' es hob
    split at hf
    ·rename_i hn
     subst hn
     refine⟨es,[],[key],hf,rfl,norow,fun z hz=>by simp at hz;subst hz;exact⟨_,hob,rfl⟩,by simp[dQ],fun ρ'' X'' ht y hy=>?_⟩
     rcases hy with hy | ⟨hy,h1⟩
     ·cases hy
     ·obtain⟨v,e1,e2⟩:=h.objs key _ hob
      have hyy:ρ key=some y:=hy
      rw[hyy] at e1
      cases e1
      exact .inr ⟨T5 e2 ht.sub (fun b hb=>ht.trees key (by simp) y b hyy (.inl hb)),h1⟩
    ·cases hf
   ·cases hf
  ·rename_i key m lo len tg
   split at hf
   ·rename_i fz e n' es hob
    split at hf
    ·rename_i hn
     obtain⟨rfl,rfl⟩:=hn
     refine⟨_,[],[key],hf,rfl,norow,fun z hz=>by simp at hz;subst hz;exact⟨_,hob,rfl⟩,by simp[dQ],fun ρ'' X'' ht y hy=>?_⟩
     rcases hy with hy | ⟨⟨v,q1,q2⟩,h1⟩
     ·cases hy
     ·obtain⟨v',e1,e2⟩:=h.objs key _ hob
      rw[q1] at e1
      cases e1
      exact .inr ⟨NF e2 q2 ht.sub (fun b hb=>ht.trees key (by simp) v b q1 (.inl hb)),h1⟩
    ·cases hf
   ·cases hf
  ·rename_i k0
   split at hf
   ·rename_i K hK
    split at hf
    ·rename_i e1 m l hob
     split at hf
     ·rename_i hn
      subst hn
      refine⟨_,[],[K],hf,rfl,norow,fun z hz=>by simp at hz;subst hz;exact⟨_,hob,rfl⟩,by simp[dQ],fun ρ'' X'' ht y hy=>?_⟩
      rcases hy with hy | ⟨⟨vs,q1,q2⟩,h1⟩
      ·cases hy
      ·obtain⟨hole,_,_,_,_,vs',f1,f2,f3,f4⟩:=AE h hK q1
       rw[hob] at f1
       cases f1
       exact .inr ⟨Sg f4 (f3.trans q2) ht.sub (fun b hb=>ht.trees K (by simp) _ b f2 hb),h1⟩
     ·cases hf
    ·cases hf
   ·cases hf
  ·cases hf
 | rr e e2 n key=>
  simp only[G6] at hf
  split at hf
  ·rename_i k0
   split at hf
   ·rename_i K hK
    split at hf
    ·rename_i e' e2' n' l hob
     split at hf
     ·rename_i hn
      obtain⟨rfl,rfl,rfl⟩:=hn
      refine⟨l,[some K],[],hf,rfl,fun i k o hi=>?_,by simp,by simp[dQ],fun ρ'' X'' ht y hy=>?_⟩
      ·cases i with
       | zero=>
        simp only[fK,List.getElem?_cons_zero,Option.some.injEq,Prod.mk.injEq] at hi
        obtain⟨rfl,rfl⟩:=hi
        exact⟨rfl,some K,rfl,rfl,fun k'' hk=>by cases hk;exact hob,by simp⟩
       | succ i=>simp[fK] at hi
      ·rcases hy with hy | ⟨⟨vs,q1,q2⟩,h1⟩
       ·cases hy
       ·obtain⟨hole,_,_,_,_,vs',f1,f2,f3,f4⟩:=AE h hK q1
        exact .inr ⟨⟨vs',(ht.rows 0 key (some K) rfl rfl).trans f2,f3.trans q2⟩,h1⟩
     ·cases hf
    ·cases hf
   ·cases hf
  ·cases hf
 | row e n key=>
  simp only[G6] at hf
  split at hf
  ·split at hf
   ·rename_i hn
    refine⟨[],[none],[],hf,rfl,fun i k o hi=>?_,by simp,by simp[dQ],fun ρ'' X'' ht y hy=>?_⟩
    ·cases i with
     | zero=>
      simp only[fK,List.getElem?_cons_zero,Option.some.injEq,Prod.mk.injEq] at hi
      obtain⟨rfl,rfl⟩:=hi
      exact⟨rfl,none,rfl,AF _ _ _,by simp,fun _=>⟨e,n,by unfold NB;rw[if_pos hn.2],hn⟩⟩
     | succ i=>simp[fK] at hi
    ·rcases hy with hy | ⟨hy,h1⟩
     ·cases hy
     ·have:=Rd.inv_v hy
      subst this
      exact .inr ⟨ht.rows 0 key none rfl rfl,rfl⟩
   ·cases hf
  ·rename_i k'
   split at hf
   ·rename_i e' n' es hob
    split at hf
    ·rename_i hc
     obtain⟨hnm,rfl,rfl⟩:=hc
     refine⟨es,[some k'],[],hf,rfl,fun i k o hi=>?_,by simp,fun p hp=>by simp only[dQ,List.mem_singleton] at hp;subst hp;exact⟨rfl,rfl⟩,fun ρ'' X'' ht y hy=>?_⟩
     ·cases i with
      | zero=>
       simp only[fK,List.getElem?_cons_zero,Option.some.injEq,Prod.mk.injEq] at hi
       obtain⟨rfl,rfl⟩:=hi
       exact⟨rfl,some k',rfl,AF _ _ _,fun k'' hk=>by cases hk;unfold NB;rw[if_pos hnm];exact hob,by simp⟩
      | succ i=>simp[fK] at hi
     ·rcases hy with hy | ⟨hy,h1⟩
      ·cases hy
      ·exact .inr ⟨(ht.rows 0 key (some k') rfl rfl).trans hy,h1⟩
    ·cases hf
   ·rename_i e' n' es hob
    split at hf
    ·rename_i hc
     obtain⟨hnm,rfl,rfl⟩:=hc
     refine⟨es,[some k'],[],hf,rfl,fun i k o hi=>?_,by simp,fun p hp=>by simp only[dQ,List.mem_singleton] at hp;subst hp;exact⟨rfl,rfl⟩,fun ρ'' X'' ht y hy=>?_⟩
     ·cases i with
      | zero=>
       simp only[fK,List.getElem?_cons_zero,Option.some.injEq,Prod.mk.injEq] at hi
       obtain⟨rfl,rfl⟩:=hi
       exact⟨rfl,some k',rfl,AF _ _ _,fun k'' hk=>by cases hk;unfold NB;rw[if_neg (by omega),if_pos (by omega)];exact hob,by simp⟩
      | succ i=>simp[fK] at hi
     ·rcases hy with hy | ⟨hy,h1⟩
      ·cases hy
      ·exact .inr ⟨(ht.rows 0 key (some k') rfl rfl).trans hy,h1⟩
    ·cases hf
   ·rename_i e' n' es hob
    split at hf
    ·rename_i hc
     obtain⟨hnm,rfl,rfl⟩:=hc
     refine⟨es,[some k'],[],hf,rfl,fun i k o hi=>?_,by simp,fun p hp=>by simp only[dQ,List.mem_singleton] at hp;subst hp;exact⟨rfl,rfl⟩,fun ρ'' X'' ht y hy=>?_⟩
     ·cases i with
      | zero=>
       simp only[fK,List.getElem?_cons_zero,Option.some.injEq,Prod.mk.injEq] at hi
       obtain⟨rfl,rfl⟩:=hi
       exact⟨rfl,some k',rfl,AF _ _ _,fun k'' hk=>by cases hk;unfold NB;rw[if_neg (by omega),if_neg (by omega)];exact hob,by simp⟩
      | succ i=>simp[fK] at hi
     ·rcases hy with hy | ⟨hy,h1⟩
      ·cases hy
      ·exact .inr ⟨(ht.rows 0 key (some k') rfl rfl).trans hy,h1⟩
    ·cases hf
   ·cases hf
  ·cases hf
 | tree=>
  simp only[G6] at hf
  split at hf
  ·rename_i x
   refine⟨x,[],[],hf,rfl,norow,by simp,by simp[dQ],fun ρ'' X'' ht y hy=>?_⟩
   rcases hy with hy | ⟨hy,h1⟩
   ·cases hy
   ·exact .inr ⟨Rd.weak hy ht.sub,h1⟩
  ·cases hf
 | lit c'=>
  simp only[G6] at hf
  split at hf
  ·rename_i hs
   refine⟨(),[],[],hf,rfl,norow,by simp,by simp[dQ],fun ρ'' X'' ht y hy=>Sd ht.sub ht.lit hs hy⟩
  ·cases hf
theorem vK(s:Sh)(l:List Sh):bV (s::l)=bV [s]++bV l:=by cases s <;> rfl
theorem Q3(s:Sh)(l:List Sh)(c:C)(cs:List C):dQ (s::l) (c::cs)=dQ [s] [c]++dQ l cs:=by cases s <;> cases c <;> simp[dQ]
theorem XQ(s:Sh)(l:List Sh)(x:s.ty)(t:sH l):fK (s::l) (x,t)=fK [s] (x,())++fK l t:=by cases s <;> rfl
theorem lW:∀(l:List Sh) (t:sH l),(fK l t).length=(bV l).length
 | [],_=>rfl
 | .int _::l,t=>lW l t.2
 | .bool::l,t=>lW l t.2
 | .str::l,t=>lW l t.2
 | .sl _::l,t=>lW l t.2
 | .row _ _ _::l,t=>by simp[fK,bV,lW l t.2]
 | .rr _ _ _ _::l,t=>by simp[fK,bV,lW l t.2]
 | .tree::l,t=>lW l t.2
 | .lit _::l,t=>lW l t.2
theorem El{σ:List (Nat×Nat)}(h:Rel w0 F Xc ρ0 ρ st a w):∀(l:List Sh) (cs:List C) (f:sH l→List (Option Nat)→List Nat→Option R),JF σ st.objs l cs f=some r →
 ∃t rs zs,f t rs zs=some r∧rs.length=(bV l).length ∧
  (∀(i:Nat) k o,(fK l t)[i]?=some (k,o)→(bV l)[i]?=some k∧∃sr,rs[i]?=some sr∧o.rowf=true∧(∀k',sr=some k'→st.objs[k']?=some o)∧(sr=none→∃e n,o=.row false e n []∧(0<n∧n<1000000000))) ∧
  (∀z∈zs,∃o,st.objs[z]?=some o∧o.giv=true)∧(∀p∈dQ l cs,∃i:Nat,(bV l)[i]?=some p.2∧rs[i]?=some (some p.1)) ∧
  ∀(ρ'':gU) (X'':Nat→Prop),Turn ρ ρ'' (XB st.objs ρ Xc) X'' st.objs (bV l) rs zs σ→∀ys,RdL w (XB st.objs ρ Xc) ρ cs ys→RdL w X'' ρ'' (yU l t) ys
 | [],[],f,hf=>⟨(),[],[],hf,rfl,fun i k o hi=>by simp[fK] at hi,by simp,by simp[dQ],fun _ _ _ ys hy=>⟨hy.1,fun i c y h1 _=>by simp[yU] at h1⟩⟩
 | [],_::_,f,hf=>by simp[JF] at hf
 | _::_,[],f,hf=>by simp[JF] at hf
 | s::l,c::cs,f,hf=>by
  simp only[JF] at hf
  obtain⟨x,rs1,zs1,hf1,len1,row1,z1,pr1,turn1⟩:=Si h hf
  obtain⟨t,rs2,zs2,hf2,len2,row2,z2,pr2,turn2⟩:=El h l cs _ hf1
  have hlen1:=lW [s] (x,())
  refine⟨(x,t),rs1++rs2,zs1++zs2,hf2,by rw[List.length_append,vK,List.length_append,len1,len2],fun i k o hi=>?_,fun z hz=>?_,fun p hp=>?_,fun ρ'' X'' ht ys hy=>?_⟩
  ·rw[XQ,List.getElem?_append] at hi
   rw[vK,List.getElem?_append,List.getElem?_append]
   split at hi
   ·rename_i hlt
    rw[if_pos (by omega),if_pos (by omega)]
    exact row1 i k o hi
   ·rename_i hlt
    rw[if_neg (by omega),if_neg (by omega),len1]
    rw[hlen1] at hi
    exact row2 _ k o hi
  ·rcases List.mem_append.1 hz with hz | hz
   ·exact z1 z hz
   ·exact z2 z hz
  ·rw[Q3] at hp
   rw[vK]
   rcases List.mem_append.1 hp with hp | hp
   ·obtain⟨e1,e2⟩:=pr1 p hp
    exact⟨0,by rw[e1];rfl,by rw[e2];rfl⟩
   ·obtain⟨i,e1,e2⟩:=pr2 p hp
    exact⟨i+rs1.length,by rw[List.getElem?_append,if_neg (by omega),←len1,Nat.add_sub_cancel];exact e1,by rw[List.getElem?_append,if_neg (by omega),Nat.add_sub_cancel];exact e2⟩
  ·cases ys with
   | nil=>simp[RdL] at hy
   | cons y ys=>
    have hk:=ht.rows
    rw[vK] at hk
    have t1:Turn ρ ρ'' (XB st.objs ρ Xc) X'' st.objs (bV [s]) rs1 zs1 σ:=
     ⟨ht.sub,len1.symm,fun i k sr h1 h2=>hk i k sr (by rw[List.getElem?_append,if_pos (List.getElem?_eq_some_iff.1 h1).1];exact h1) (by rw[List.getElem?_append,if_pos (List.getElem?_eq_some_iff.1 h2).1];exact h2),
      fun z hz=>ht.trees z (List.mem_append.2 (.inl hz)),ht.lit⟩
    have t2:Turn ρ ρ'' (XB st.objs ρ Xc) X'' st.objs (bV l) rs2 zs2 σ:=
     ⟨ht.sub,len2.symm,fun i k sr h1 h2=>hk (i+rs1.length) k sr (by rw[List.getElem?_append,if_neg (by omega),←len1,Nat.add_sub_cancel];exact h1) (by rw[List.getElem?_append,if_neg (by omega),Nat.add_sub_cancel];exact h2),
      fun z hz=>ht.trees z (List.mem_append.2 (.inr hz)),ht.lit⟩
    have hy2:RdL w (XB st.objs ρ Xc) ρ cs ys:=⟨by simpa using hy.1,fun i c y h1 h2=>hy.2 (i+1) c y (by simpa using h1) (by simpa using h2)⟩
    have r2:=turn2 ρ'' X'' t2 ys hy2
    refine⟨by simp[yU,r2.1],fun i c' y' h1 h2=>?_⟩
    cases i with
    | zero=>simp[yU] at h1 h2;subst h1;subst h2;exact turn1 ρ'' X'' t1 _ (hy.2 0 c _ rfl rfl)
    | succ i=>exact r2.2 i c' y' (by simpa[yU] using h1) (by simpa using h2)
theorem lO(h:Rel w0 F Xc ρ0 ρ st a w):∀(items:List It) (cs:List C),eV st items=some cs→∃ys,RdL w (XB st.objs ρ Xc) ρ cs ys
 | [],cs,hg=>by simp only[eV,Option.some.injEq] at hg;subst hg;exact⟨[],rfl,fun i c y h1 _=>by simp at h1⟩
 | .slot i::l,cs,hg=>by
  simp only[eV] at hg
  split at hg
  ·rename_i c cs' he hg'
   cases hg
   obtain⟨ys,hy⟩:=lO h l cs' hg'
   have hr:=h.ev (.tmp i)
   have:ev st (.tmp i)=.s (.c c):=he
   rw[this] at hr
   exact⟨_,(RdL.one (c:=c) hr).append hy⟩
  ·cases hg
 | .aggs i n::l,cs,hg=>by
  simp only[eV] at hg
  split at hg
  ·rename_i c cs' he hg'
   split at hg
   ·cases hg
    obtain⟨ys,hy⟩:=lO h l cs' hg'
    have hr:=h.ev (.tmp i)
    have:ev st (.tmp i)=.s (.agg c):=he
    rw[this] at hr
    obtain⟨vs,_,hvs⟩:=hr
    exact⟨_,hvs.append hy⟩
   ·cases hg
  ·cases hg
 | .box k n::l,cs,hg=>by
  simp only[eV] at hg
  split at hg
  ·rename_i c cs' ho hg'
   split at hg
   ·cases hg
    obtain⟨ys,hy⟩:=lO h l cs' hg'
    obtain⟨v,_,g,zs,ty,_,_,_,hz⟩:=h.objs k _ ho
    exact⟨_,hz.append hy⟩
   ·cases hg
  ·cases hg
 | .boxr i k n::l,cs,hg=>by
  simp only[eV] at hg
  split at hg
  ·rename_i key cs' he hg'
   split at hg
   ·rename_i c ho
    split at hg
    ·cases hg
     obtain⟨ys,hy⟩:=lO h l cs' hg'
     obtain⟨v,_,g,zs,ty,_,_,_,hz⟩:=h.objs key _ ho
     exact⟨_,hz.append hy⟩
    ·cases hg
   ·cases hg
  ·cases hg
end
section
variable {R:Type} {w0 w:World} {F Xc X X'':Nat→Prop} {ρ0:Base} {ρ ρ'':gU} {st:St} {a:Act} {r:R}
theorem bM{α β γ:Type}(m:Option α)(f:α→Option β)(g:β→Option γ):(ob m f).bind g=ob m fun a=>(f a).bind g:=by cases m <;> rfl
theorem NY{R:Type}{σ:List (Nat×Nat)}{objs:List O}{s:Sh}{c:C}(f:s.ty→List (Option Nat)→List Nat→Option R):G6 σ objs s c f=(G6 σ objs s c fun x r z=>some (x,r,z)).bind fun p=>f p.1 p.2.1 p.2.2:=by
 cases s <;> simp only[G6] <;> repeat' (first | split | dsimp only)
 all_goals first
  | rfl
  | (simp_all [bM];done)
theorem G7{R:Type}{σ:List (Nat×Nat)}{objs:List O}:∀(l:List Sh) (cs:List C) (f:sH l→List (Option Nat)→List Nat→Option R),JF σ objs l cs f=(JF σ objs l cs fun x r z=>some (x,r,z)).bind fun p=>f p.1 p.2.1 p.2.2
 | [],[],f=>rfl
 | [],_::_,f=>rfl
 | _::_,[],f=>rfl
 | s::l,c::cs,f=>by
  simp only[JF]
  refine(NY _).trans (Eq.trans ?_ (congrArg (fun z:Option (sH (s::l)×List (Option Nat)×List Nat)=>z.bind fun p=>f p.1 p.2.1 p.2.2) (NY _)).symm)
  rw[Option.bind_assoc]
  refine congrArg _ (funext fun p=>?_)
  refine(G7 l cs _).trans (Eq.trans ?_ (congrArg (fun z:Option (sH (s::l)×List (Option Nat)×List Nat)=>z.bind fun p=>f p.1 p.2.1 p.2.2) (G7 l cs _)).symm)
  rw[Option.bind_assoc]
  rfl
theorem Iw{σ:List (Nat×Nat)}{c:C}{t:TypeId}(h:c.same σ (.self t)=true):c=.self t:=by
 unfold C.same at h
 split at h <;> first
  | (rename_i e;cases e;done)
  | (rename_i e1 e2;cases e2;done)
  | skip
 all_goals simp_all
theorem Ix{s:Sh}{x:s.ty}{t:TypeId}(h:Sc s x=.self t):s=.lit (.self t):=by
 cases s <;> simp[Sc] at h
 subst h;rfl
theorem SU{R:Type}{σ:List (Nat×Nat)}{objs:List O}{r:R}:∀(l:List Sh) (cs:List C) {f:sH l→List (Option Nat)→List Nat→Option R},JF σ objs l cs f=some r→∀t:sH l,SelfLe cs (yU l t)
 | [],[],f,_,t,i,u,hi=>by simp[yU] at hi
 | [],_::_,f,h,_,_,_,_=>by simp[JF] at h
 | _::_,[],f,h,_,_,_,_=>by simp[JF] at h
 | s::l,c::cs,f,h,t,i,u,hi=>by
  simp only[JF] at h
  cases i with
  | zero=>
   simp only[yU,List.getElem?_cons_zero,Option.some.injEq] at hi ⊢
   have hs:=Ix hi
   subst hs
   simp only[G6] at h
   split at h
   ·rename_i hc;exact Iw hc
   ·cases h
  | succ i=>
   rw[NY] at h
   obtain⟨p,_,h2⟩:=Option.bind_eq_some_iff.1 h
   simpa using SU l cs h2 t.2 i u (by simpa[yU] using hi)
def Refines(w:World)(X:Nat→Prop)(ρ:gU)(X'':Nat→Prop)(ρ'':gU)(cs cs':List C):Prop:=(∀ys,RdL w X ρ cs ys→RdL w X'' ρ'' cs' ys)∧SelfLe cs cs'
theorem Refines.right{l m m':List C}(h:Refines w X ρ X'' ρ'' (l++m) m'){ys:List Value}(hy:RdL w X ρ l ys):Refines w X ρ X'' ρ'' m (m'.drop l.length):=⟨fun zs hz=>by
 have:=(h.1 _ (hy.append hz)).drop l.length
 rwa[←hy.1,List.drop_left,hy.1] at this,h.2.right⟩
theorem Refines.left{l m m':List C}(h:Refines w X ρ X'' ρ'' (l++m) m'){zs:List Value}(hz:RdL w X ρ m zs):Refines w X ρ X'' ρ'' l (m'.take l.length):=⟨fun ys hy=>by
 have:=(h.1 _ (hy.append hz)).take l.length
 rwa[←hy.1,List.take_left,hy.1] at this,h.2.left⟩
def EnvOK(w:World)(X'':Nat→Prop)(ρ'':gU)(a:Act)(env:List D):Prop:=∀(i:Nat) d y,env[i]?=some d→a.tmps[i]?=some y→RdD w X'' ρ'' d y
theorem EnvOK.set{env:List D}(h:EnvOK w X'' ρ'' a env){j:Nat}{d:D}(hd:∀y,a.tmps[j]?=some y→RdD w X'' ρ'' d y):EnvOK w X'' ρ'' a (env.set j d):=fun i d' y h1 h2=>by
 rw[List.getElem?_set] at h1
 split at h1
 ·rename_i e
  subst e
  split at h1
  ·cases h1;exact hd y h2
  ·cases h1
 ·exact h i d' y h1 h2
theorem NZ{i:Nat}{y:Value}(h:a.tmps[i]?=some y):a.eval (.tmp i)=y:=by
 obtain⟨hlt,rfl⟩:=Array.getElem?_eq_some_iff.1 h
 simp[Act.eval,Array.getD_eq_getD_getElem?,Array.getElem?_eq_getElem hlt]
theorem tZ(h:Rel w0 F Xc ρ0 ρ st a w):∀(items:List It) (cs cs':List C) (st0:St),(∀p∈cS st items,ρ'' p.2=ρ p.1)→eV st items=some cs→Refines w (XB st.objs ρ Xc) ρ X'' ρ'' cs cs'→EnvOK w X'' ρ'' a st0.env→EnvOK w X'' ρ'' a (dH items cs' st0).env
 | [],_,_,_,_,_,_,he=>he
 | .slot i::l,cs,cs',st0,hbp,hg,hr,he=>by
  simp only[eV] at hg
  split at hg
  ·rename_i c cs1 hc hg'
   cases hg
   obtain⟨ys1,hy1⟩:=lO h l cs1 hg'
   have hev:RdD w (XB st.objs ρ Xc) ρ (.s (.c c)) (a.eval (.tmp i)):=by have:=h.ev (.tmp i);rwa[show ev st (.tmp i)=.s (.c c) from hc] at this
   have h1:RdL w (XB st.objs ρ Xc) ρ [c] [a.eval (.tmp i)]:=RdL.one hev
   simp only[dH]
   refine tZ h l cs1 cs'.tail _ hbp hg' ?_ (he.set fun y hy=>?_)
   ·have:=Refines.right (l:=[c]) (m:=cs1) hr h1
    rwa[List.length_singleton,List.drop_one] at this
   ·have:=(Refines.left (l:=[c]) (m:=cs1) hr hy1).1 _ h1
    cases cs' with
    | nil=>simp[RdL] at this
    | cons c' cs'=>
     have hh:=this.2 0 c' _ rfl rfl
     rw[NZ hy] at hh
     exact hh
  ·cases hg
 | .aggs i n::l,cs,cs',st0,hbp,hg,hr,he=>by
  simp only[eV] at hg
  split at hg
  ·rename_i c cs1 hc hg'
   split at hg
   ·rename_i hn
    cases hg
    obtain⟨ys1,hy1⟩:=lO h l cs1 hg'
    have hev:RdD w (XB st.objs ρ Xc) ρ (.s (.agg c)) (a.eval (.tmp i)):=by have:=h.ev (.tmp i);rwa[show ev st (.tmp i)=.s (.agg c) from hc] at this
    obtain⟨vs,hvs,hl⟩:=hev
    simp only[dH]
    subst hn
    refine tZ h l cs1 _ _ hbp hg' (Refines.right hr hl) (he.set fun y hy=>?_)
    rw[NZ hy] at hvs
    exact⟨vs,hvs,(Refines.left hr hy1).1 _ hl⟩
   ·cases hg
  ·cases hg
 | .box k n::l,cs,cs',st0,hbp,hg,hr,he=>by
  simp only[eV] at hg
  split at hg
  ·rename_i c cs1 hc hg'
   split at hg
   ·rename_i hn
    cases hg
    obtain⟨v,_,g,zs,ty,_,_,_,hz⟩:=h.objs k _ hc
    simp only[dH]
    subst hn
    exact tZ h l cs1 _ _ (fun p hp=>hbp p (by simp only[cS,List.mem_cons];exact .inr hp)) hg' (Refines.right hr hz) he
   ·cases hg
  ·cases hg
 | .boxr i k n::l,cs,cs',st0,hbp,hg,hr,he=>by
  simp only[eV] at hg
  split at hg
  ·rename_i key cs1 hc hg'
   split at hg
   ·rename_i c ho
    split at hg
    ·rename_i hn
     cases hg
     have hbp0:cS st (.boxr i k n::l)=(key,k)::cS st l:=by simp only[cS,hc]
     rw[hbp0] at hbp
     obtain⟨v,_,g,zs,ty,_,_,_,hz⟩:=h.objs key _ ho
     have hev:RdD w (XB st.objs ρ Xc) ρ (.s (.c (.box key 0))) (a.eval (.tmp i)):=by have:=h.ev (.tmp i);rwa[show ev st (.tmp i)=.s (.c (.box key 0)) from hc] at this
     simp only[dH]
     subst hn
     refine tZ h l cs1 _ _ (fun p hp=>hbp p (by simp[hp])) hg' (Refines.right hr hz) (he.set fun y hy=>?_)
     rw[NZ hy] at hev
     rcases hev with hev | ⟨⟨v',e1,e2⟩,h1⟩
     ·cases hev
     ·exact .inr ⟨⟨v',(hbp (key,k) (by simp)).trans e1,e2⟩,h1⟩
    ·cases hg
   ·cases hg
  ·cases hg
theorem lX:∀(items:List It) (cs':List C) (st0:St),(dH items cs' st0).np=st0.np∧(dH items cs' st0).env.length=st0.env.length∧(dH items cs' st0).objs.length=st0.objs.length
 | [],_,_=>⟨rfl,rfl,rfl⟩
 | .slot i::l,cs',st0=>by obtain⟨h1,h2,h3⟩:=lX l cs'.tail { st0 with env:=st0.env.set i (.s (.c (cs'.headD .top))) };exact⟨h1,h2.trans (List.length_set ..),h3⟩
 | .aggs i n::l,cs',st0=>by obtain⟨h1,h2,h3⟩:=lX l (cs'.drop n) { st0 with env:=st0.env.set i (.s (.agg (cs'.take n))) };exact⟨h1,h2.trans (List.length_set ..),h3⟩
 | .box k n::l,cs',st0=>by obtain⟨h1,h2,h3⟩:=lX l (cs'.drop n) { st0 with objs:=st0.objs.set k (.box (cs'.take n)) };exact⟨h1,h2,h3.trans (List.length_set ..)⟩
 | .boxr i k n::l,cs',st0=>by obtain⟨h1,h2,h3⟩:=lX l (cs'.drop n) { st0 with env:=st0.env.set i (.s (.c (.box k 0))),objs:=st0.objs.set k (.box (cs'.take n)) };exact⟨h1,h2.trans (List.length_set ..),h3.trans (List.length_set ..)⟩
theorem rE(h:Rel w0 F Xc ρ0 ρ st a w):∀(items:List It) (cs cs':List C) (st0:St),eV st items=some cs→Refines w (XB st.objs ρ Xc) ρ X'' ρ'' cs cs'→(dJ items).Nodup→(∀k∈dJ items,k<st0.objs.length) →
 ∀k,(k∉dJ items→(dH items cs' st0).objs[k]?=st0.objs[k]?) ∧
  (k∈dJ items→∃q l l',(q,k)∈cS st items∧st.objs[q]?=some (.box l)∧(dH items cs' st0).objs[k]?=some (.box l')∧Refines w (XB st.objs ρ Xc) ρ X'' ρ'' l l')
 | [],_,_,_,_,_,_,_,k=>⟨fun _=>rfl,fun hk=>by simp[dJ] at hk⟩
 | .slot i::l,cs,cs',st0,hg,hr,hn,hb,k=>by
  simp only[eV] at hg
  split at hg
  ·rename_i c cs1 hc hg'
   cases hg
   have hev:RdD w (XB st.objs ρ Xc) ρ (.s (.c c)) (a.eval (.tmp i)):=by have:=h.ev (.tmp i);rwa[show ev st (.tmp i)=.s (.c c) from hc] at this
   have h1:RdL w (XB st.objs ρ Xc) ρ [c] [a.eval (.tmp i)]:=RdL.one hev
   have hr':=Refines.right (l:=[c]) (m:=cs1) hr h1
   rw[List.length_singleton,List.drop_one] at hr'
   exact rE h l cs1 _ { st0 with env:=st0.env.set i (.s (.c (cs'.headD .top))) } hg' hr' hn hb k
  ·cases hg
 | .aggs i n::l,cs,cs',st0,hg,hr,hn,hb,k=>by
  simp only[eV] at hg
  split at hg
  ·rename_i c cs1 hc hg'
   split at hg
   ·rename_i hnn
    cases hg
    have hev:RdD w (XB st.objs ρ Xc) ρ (.s (.agg c)) (a.eval (.tmp i)):=by have:=h.ev (.tmp i);rwa[show ev st (.tmp i)=.s (.agg c) from hc] at this
    obtain⟨vs,hvs,hl⟩:=hev
    subst hnn
    exact rE h l cs1 _ { st0 with env:=st0.env.set i (.s (.agg (cs'.take c.length))) } hg' (Refines.right hr hl) hn hb k
   ·cases hg
  ·cases hg
 | .box q n::l,cs,cs',st0,hg,hr,hn,hb,k=>by
  simp only[eV] at hg
  split at hg
  ·rename_i c cs1 hc hg'
   split at hg
   ·rename_i hnn
    cases hg
    obtain⟨v,_,g,zs,ty,_,_,_,hz⟩:=h.objs q _ hc
    subst hnn
    simp only[dJ] at hn hb
    obtain⟨hq,hn'⟩:=List.nodup_cons.1 hn
    obtain⟨e1,e2⟩:=rE h l cs1 _ { st0 with objs:=st0.objs.set q (.box (cs'.take c.length)) } hg' (Refines.right hr hz) hn' (fun k hk=>by simpa using hb k (by simp[hk])) k
    obtain⟨ys1,hy1⟩:=lO h l cs1 hg'
    simp only[dH,dJ,List.mem_cons,not_or]
    refine⟨fun hk=>?_,fun hk=>?_⟩
    ·rw[e1 hk.2,List.getElem?_set_ne (fun e=>hk.1 e.symm)]
    ·by_cases hkl:k∈dJ l
     ·obtain⟨q',l1,l2,r1,r2,r3,r4⟩:=e2 hkl
      exact⟨q',l1,l2,by simp only[cS,List.mem_cons];exact .inr r1,r2,r3,r4⟩
     ·have hkq:k=q:=hk.resolve_right hkl
      subst hkq
      refine⟨k,c,cs'.take c.length,by simp[cS],hc,?_,Refines.left hr hy1⟩
      rw[e1 hkl,List.getElem?_set_self (hb k (by simp))]
   ·cases hg
  ·cases hg
 | .boxr i q n::l,cs,cs',st0,hg,hr,hn,hb,k=>by
  simp only[eV] at hg
  split at hg
  ·rename_i key cs1 hc hg'
   split at hg
   ·rename_i c ho
    split at hg
    ·rename_i hnn
     cases hg
     have hbp0:cS st (.boxr i q n::l)=(key,q)::cS st l:=by simp only[cS,hc]
     obtain⟨v,_,g,zs,ty,_,_,_,hz⟩:=h.objs key _ ho
     subst hnn
     simp only[dJ] at hn hb
     obtain⟨hq,hn'⟩:=List.nodup_cons.1 hn
     obtain⟨e1,e2⟩:=rE h l cs1 _ { st0 with env:=st0.env.set i (.s (.c (.box q 0))),objs:=st0.objs.set q (.box (cs'.take c.length)) } hg' (Refines.right hr hz) hn' (fun k hk=>by simpa using hb k (by simp[hk])) k
     obtain⟨ys1,hy1⟩:=lO h l cs1 hg'
     simp only[dH,dJ,List.mem_cons,not_or]
     refine⟨fun hk=>?_,fun hk=>?_⟩
     ·rw[e1 hk.2,List.getElem?_set_ne (fun e=>hk.1 e.symm)]
     ·by_cases hkl:k∈dJ l
      ·obtain⟨q',l1,l2,r1,r2,r3,r4⟩:=e2 hkl
       exact⟨q',l1,l2,by rw[hbp0];simp[r1],r2,r3,r4⟩
      ·have hkq:k=q:=hk.resolve_right hkl
       subst hkq
       refine⟨key,c,cs'.take c.length,by rw[hbp0];simp,ho,?_,Refines.left hr hy1⟩
       rw[e1 hkl,List.getElem?_set_self (hb k (by simp))]
    ·cases hg
   ·cases hg
  ·cases hg
theorem pG:∀(l:List (Nat×O)) (objs:List O) (k:Nat),k∉l.map (·.1)→(lV objs l)[k]?=objs[k]?
 | [],_,_,_=>rfl
 | p::l,objs,k,h=>by
  simp only[lV]
  rw[pG l _ k (fun hm=>h (by simp at hm ⊢;exact .inr hm)),List.getElem?_set_ne (fun e=>h (by simp[e]))]
theorem N0:∀(l:List (Nat×O)) (objs:List O) (i k:Nat) (o:O),(l.map (·.1)).Nodup→l[i]?=some (k,o)→k<objs.length→(lV objs l)[k]?=some o
 | [],_,i,k,o,_,h,_=>by simp at h
 | p::l,objs,i,k,o,hn,h,hk=>by
  simp only[lV]
  simp only[List.map_cons] at hn
  obtain⟨hp,hn'⟩:=List.nodup_cons.1 hn
  cases i with
  | zero=>
   simp at h
   subst h
   rw[pG l _ k hp,List.getElem?_set_self hk]
  | succ i=>exact N0 l _ i k o hn' (by simpa using h) (by simpa using hk)
theorem KQ:∀(l:List (Nat×O)) (objs:List O),(lV objs l).length=objs.length
 | [],_=>rfl
 | p::l,objs=>by simp only[lV];rw[KQ l];simp
theorem Iy(np n m:Nat)(a:Act):EnvOK w X'' ρ'' a (iI np n m).env:=fun i d y h1 _=>by
 simp only[iI,List.getElem?_replicate] at h1
 split at h1
 ·cases h1;exact .top_ y
 ·cases h1
theorem wL{np n m k:Nat}(hm:np≤m):(iI np n m).objs[k]?=if k<np then some .dead else if k<m then some .fresh else none:=by
 simp only[iI,List.getElem?_append,List.getElem?_replicate,List.length_replicate]
 by_cases h1:k<np
 ·simp[h1]
 ·by_cases h2:k<m
  ·simp[h1,h2];omega
  ·simp[h1,h2];omega
theorem eX:∀(l:List Sh) (t:sH l),(fK l t).map (·.1)=bV l
 | [],_=>rfl
 | .int _::l,t=>eX l t.2
 | .bool::l,t=>eX l t.2
 | .str::l,t=>eX l t.2
 | .sl _::l,t=>eX l t.2
 | .row _ _ _::l,t=>by simp[fK,bV,eX l t.2]
 | .rr _ _ _ _::l,t=>by simp[fK,bV,eX l t.2]
 | .tree::l,t=>eX l t.2
 | .lit _::l,t=>eX l t.2
theorem nP:∀(items:List It) (cs:List C),eV st items=some cs→∀p∈cS st items,∃l,st.objs[p.1]?=some (.box l)
 | [],_,_,p,hk=>by simp[cS] at hk
 | .slot i::l,cs,hg,p,hk=>by
  simp only[eV] at hg
  split at hg
  ·rename_i hg';exact nP l _ hg' p hk
  ·cases hg
 | .aggs i n::l,cs,hg,p,hk=>by
  simp only[eV] at hg
  split at hg
  ·rename_i hg';exact nP l _ hg' p hk
  ·cases hg
 | .box q n::l,cs,hg,p,hk=>by
  simp only[eV] at hg
  split at hg
  ·rename_i c cs1 hc hg'
   simp only[cS,List.mem_cons] at hk
   rcases hk with rfl | hk
   ·exact⟨c,hc⟩
   ·exact nP l _ hg' p hk
  ·cases hg
 | .boxr i q n::l,cs,hg,p,hk=>by
  simp only[eV] at hg
  split at hg
  ·rename_i key cs1 hc hg'
   split at hg
   ·rename_i c ho
    simp only[cS,hc,List.mem_cons] at hk
    rcases hk with rfl | hk
    ·exact⟨c,ho⟩
    ·exact nP l _ hg' p hk
   ·cases hg
  ·cases hg
theorem pH:∀(items:List It) (cs:List C),eV st items=some cs→(cS st items).map (·.2)=dJ items
 | [],_,_=>rfl
 | .slot i::l,cs,hg=>by
  simp only[eV] at hg
  split at hg
  ·rename_i hg';exact pH l _ hg'
  ·cases hg
 | .aggs i n::l,cs,hg=>by
  simp only[eV] at hg
  split at hg
  ·rename_i hg';exact pH l _ hg'
  ·cases hg
 | .box q n::l,cs,hg=>by
  simp only[eV] at hg
  split at hg
  ·rename_i c cs1 hc hg'
   simp only[cS,dJ,List.map_cons,pH l _ hg']
  ·cases hg
 | .boxr i q n::l,cs,hg=>by
  simp only[eV] at hg
  split at hg
  ·rename_i key cs1 hc hg'
   simp only[cS,hc,dJ,List.map_cons,pH l _ hg']
  ·cases hg
theorem oJ:∀(items:List It) (cs':List C) (st0:St) (k:Nat),k∉dJ items→(dH items cs' st0).objs[k]?=st0.objs[k]?
 | [],_,_,_,_=>rfl
 | .slot i::l,cs',st0,k,hk=>oJ l _ { st0 with env:=st0.env.set i (.s (.c (cs'.headD .top))) } k hk
 | .aggs i n::l,cs',st0,k,hk=>oJ l _ { st0 with env:=st0.env.set i (.s (.agg (cs'.take n))) } k hk
 | .box q n::l,cs',st0,k,hk=>by
  simp only[dJ,List.mem_cons,not_or] at hk
  simp only[dH]
  rw[oJ l _ _ k hk.2,List.getElem?_set_ne (fun e=>hk.1 e.symm)]
 | .boxr i q n::l,cs',st0,k,hk=>by
  simp only[dJ,List.mem_cons,not_or] at hk
  simp only[dH]
  rw[oJ l _ _ k hk.2,List.getElem?_set_ne (fun e=>hk.1 e.symm)]
theorem Q4{rs:List (Option Nat)}(h:(rs.filterMap id).Nodup){i j k:Nat}(h1:rs[i]?=some (some k))(h2:rs[j]?=some (some k)):i=j:=by
 induction rs generalizing i j with
 | nil=>simp at h1
 | cons s rs ih=>
  have key:∀q,rs[q]?=some (some k)→s=some k→False:=fun q hq e=>by
   subst e
   simp only[List.filterMap_cons,id_eq] at h
   have:=(List.nodup_cons.1 h).1
   exact this (List.mem_filterMap.2 ⟨some k,List.mem_of_getElem? hq,rfl⟩)
  have hnd:(rs.filterMap id).Nodup:=by
   cases s with
   | none=>simpa using h
   | some v=>simp only[List.filterMap_cons,id_eq] at h;exact(List.nodup_cons.1 h).2
  cases i with
  | zero=>
   cases j with
   | zero=>rfl
   | succ j=>simp at h1 h2;exact(key j h2 h1).elim
  | succ i=>
   cases j with
   | zero=>simp at h1 h2;exact(key i h1 h2).elim
   | succ j=>simp at h1 h2;rw[ih hnd h1 h2]
def F9:List (Nat×Nat)→Nat→Option Nat
 | [],_=>none
 | p::l,k=>if p.2=k then some p.1 else F9 l k
theorem N1:∀{l:List (Nat×Nat)} {p:Nat×Nat},(l.map (·.2)).Nodup→p∈l→F9 l p.2=some p.1
 | [],p,_,h=>by cases h
 | q::l,p,hn,h=>by
  simp only[List.map_cons] at hn
  obtain⟨h1,h2⟩:=List.nodup_cons.1 hn
  unfold F9
  rcases List.mem_cons.1 h with rfl | h
  ·rw[if_pos rfl]
  ·have hne:¬q.2=p.2:=fun e=>h1 (e▸List.mem_map.2 ⟨p,h,rfl⟩)
   rw[if_neg hne,N1 h2 h]
theorem KR:∀{l:List (Nat×Nat)} {k:Nat},k∉l.map (·.2)→F9 l k=none
 | [],_,_=>rfl
 | q::l,k,h=>by
  simp only[List.map_cons,List.mem_cons,not_or] at h
  unfold F9
  rw[if_neg (fun e=>h.1 e.symm),KR h.2]
theorem XR:∀{l:List (Nat×Nat)} {q k k':Nat},(l.map (·.1)).Nodup→(q,k)∈l→(q,k')∈l→k=k'
 | [],_,_,_,_,h,_=>by cases h
 | p::l,q,k,k',hn,h,h'=>by
  simp only[List.map_cons] at hn
  obtain⟨h1,h2⟩:=List.nodup_cons.1 hn
  rcases List.mem_cons.1 h with e | h <;> rcases List.mem_cons.1 h' with e' | h'
  ·rw[←e] at e';cases e';rfl
  ·rw[←e] at h1;exact(h1 (List.mem_map.2 ⟨_,h',rfl⟩)).elim
  ·rw[←e'] at h1;exact(h1 (List.mem_map.2 ⟨_,h,rfl⟩)).elim
  ·exact XR h2 h h'
theorem N2{np:Nat}:∀{ks:List Nat} {ss:List (Option Nat)} {i k:Nat} {s:Option Nat},UJ np ks ss=true→ks[i]?=some k→ss[i]?=some s→np≤k∨s=some k
 | [],_,i,k,s,_,h,_=>by simp at h
 | k'::ks,[],i,k,s,_,_,h=>by simp at h
 | k'::ks,s'::ss,i,k,s,hk,h1,h2=>by
  simp only[UJ,Bool.and_eq_true,Bool.or_eq_true,decide_eq_true_eq,beq_iff_eq] at hk
  cases i with
  | zero=>simp at h1 h2;subst h1;subst h2;exact hk.1
  | succ i=>exact N2 hk.2 (by simpa using h1) (by simpa using h2)
theorem JG{h:Hint}{f:sH h.shapes→Option R}(hex:ρ0.ex=[])(hR:Rel w0 F Xc ρ0 ρ st a w)(hf:E4 h st f=some r):
 ∃t,f t=some r∧(∀k∈dJ h.items++bV h.shapes,k<st.objs.length)∧∃ρ'',(∀k,st.objs.length≤k→ρ'' k=none)∧Rel w0 F Xc ρ0 ρ'' (cW h st.np st.env.length st.objs.length t) a w:=by
 unfold E4 at hf
 split at hf
 case h_2=>cases hf
 rename_i cs hg
 dsimp only at hf
 obtain⟨t,rs,zs,hf1,hlen,hrows,hzs,hpairs,hturn⟩:=El hR h.shapes cs _ hf
 split at hf1
 case isFalse=>cases hf1
 rename_i hc
 simp only[Bool.and_eq_true,decide_eq_true_eq] at hc
 obtain⟨⟨⟨⟨⟨⟨hok,hkeep⟩,hbk⟩,hbn⟩,hnd⟩,hz⟩,hnpm⟩:=hc
 unfold Hint.ok at hok
 simp only[Bool.and_eq_true,decide_eq_true_eq,List.all_eq_true] at hok
 obtain⟨hk1,hk3⟩:=hok
 have hbpk:=pH h.items cs hg
 have hbd:((cS st h.items).map (·.2)).Nodup:=by rw[hbpk];exact(List.nodup_append.1 hk3).1
 obtain⟨hb3,hr3,hdis⟩:=List.nodup_append.1 hk3
 refine⟨t,hf1,hk1,?_⟩
 let ρ'':gU:=fun k=>match F9 (cS st h.items) k with
  | some q=>ρ q
  | none=>match CP (bV h.shapes) rs k with
   | some s=>hOf ρ s
   | none=>if k<st.np then ρ k else none
 let objs'':List O:=(cW h st.np st.env.length st.objs.length t).objs
 have hρbox:∀p∈cS st h.items,ρ'' p.2=ρ p.1:=fun p hp=>by simp only[ρ'',N1 hbd hp]
 have hpn:∀k,k∉dJ h.items→F9 (cS st h.items) k=none:=fun k hk=>KR (by rw[hbpk];exact hk)
 have hsrc:∀k∈dJ h.items,∃q,(q,k)∈cS st h.items:=fun k hk=>by
  rw[←hbpk] at hk
  obtain⟨p,hp,rfl⟩:=List.mem_map.1 hk
  exact⟨p.1,hp⟩
 have hnotbox:∀k,k∈bV h.shapes→k∉dJ h.items:=fun k hk hb=>hdis k hb k hk rfl
 have hρrow:∀(i:Nat) k s,(bV h.shapes)[i]?=some k→rs[i]?=some s→ρ'' k=hOf ρ s:=fun i k s h1 h2=>by
  simp only[ρ'',hpn k (hnotbox k (List.mem_of_getElem? h1)),ST _ _ i k s hr3 h1 h2]
 have hsrcnone:∀k,k∉bV h.shapes→CP (bV h.shapes) rs k=none:=fun k hk=>by
  cases hs:CP (bV h.shapes) rs k with
  | none=>rfl
  | some s=>obtain⟨i,h1,_⟩:=NW _ _ _ _ hs;exact(hk (List.mem_of_getElem? h1)).elim
 have hlenO:(dH h.items (yU h.shapes t) (iI st.np st.env.length st.objs.length)).objs.length=st.objs.length:=by
  rw[(lX _ _ _).2.2];simp[iI];omega
 have hnprow:∀(i:Nat) k o,(fK h.shapes t)[i]?=some (k,o)→objs''[k]?=some o:=fun i k o hi=>by
  refine N0 _ _ i k o (by rw[eX];exact hr3) hi ?_
  rw[hlenO]
  exact hk1 k (List.mem_append.2 (.inr (List.mem_of_getElem? (hrows i k o hi).1)))
 have hother:∀k,k∉dJ h.items→k∉bV h.shapes→objs''[k]?=(iI st.np st.env.length st.objs.length).objs[k]?:=fun k hb hr=>by
  show (lV _ _)[k]?=_
  rw[pG _ _ k (by rw[eX];exact hr),oJ h.items _ _ k hb]
 have hrowi:∀k,k∈bV h.shapes→∃(i:Nat) (o:O) (sr:Option Nat),(bV h.shapes)[i]?=some k∧objs''[k]?=some o∧rs[i]?=some sr∧o.rowf=true∧(∀k',sr=some k'→st.objs[k']?=some o)∧(sr=none→∃e n,o=.row false e n []∧(0<n∧n<1000000000)):=fun k hk=>by
  rw[←eX h.shapes t] at hk
  obtain⟨p,hp,rfl⟩:=List.mem_map.1 hk
  obtain⟨i,hi,he⟩:=List.getElem_of_mem hp
  have hget:(fK h.shapes t)[i]?=some (p.1,p.2):=by rw[List.getElem?_eq_getElem hi,he]
  obtain⟨h1,sr,h2,h3⟩:=hrows i p.1 p.2 hget
  exact⟨i,p.2,sr,h1,hnprow i p.1 p.2 hget,h2,h3⟩
 have hHas:∀k b,Has objs'' ρ'' k b→(∃q,(q,k)∈cS st h.items∧Has st.objs ρ q b)∨∃i k',(bV h.shapes)[i]?=some k∧rs[i]?=some (some k')∧Has st.objs ρ k' b∧∃o,st.objs[k']?=some o∧o.rowf=true:=fun k b hh=>by
  obtain⟨o,v,h1,h2,h3,h4⟩:=hh
  by_cases hb:k∈dJ h.items
  ·obtain⟨q,hq⟩:=hsrc k hb
   obtain⟨l,hl⟩:=nP h.items cs hg _ hq
   exact .inl ⟨q,hq,_,v,hl,rfl,(hρbox _ hq)▸h3,h4⟩
  ·by_cases hr:k∈bV h.shapes
   ·obtain⟨i,o',sr,q1,q2,q3,q4,q5,q6⟩:=hrowi k hr
    rw[hρrow i k sr q1 q3] at h3
    cases sr with
    | none=>simp only[hOf,Option.some.injEq] at h3;subst h3;have h5:=h4.one rfl;simp[Xr,blk] at h5
    | some k'=>
     refine .inr ⟨i,k',q1,q3,⟨o',v,q5 k' rfl,O.rowf_live q4,h3,h4⟩,o',q5 k' rfl,q4⟩
   ·rw[hother k hb hr,wL hnpm] at h1
    split at h1
    ·cases h1;cases h2
    ·split at h1
     ·cases h1;cases h2
     ·cases h1
 have hXX:∀b,XB objs'' ρ'' Xc b→XB st.objs ρ Xc b:=fun b hb=>by
  rcases hb with⟨k,hk⟩ | hb
  ·rcases hHas k b hk with⟨q,_,hh⟩ | ⟨i,k',_,_,hh,_⟩
   ·exact .inl ⟨q,hh⟩
   ·exact .inl ⟨k',hh⟩
  ·exact .inr hb
 have hT:Turn ρ ρ'' (XB st.objs ρ Xc) (XB objs'' ρ'' Xc) st.objs (bV h.shapes) rs zs (cS st h.items++dQ h.shapes cs):=by
  refine⟨hXX,hlen.symm,hρrow,fun z hzm v b hv hb hx=>?_,fun p hp v hv=>?_⟩
  ·obtain⟨oz,hzo,hzy⟩:=hzs z hzm
   have hzr:some z∉rs:=fun hm=>by
    have:=List.all_eq_true.1 hz z hzm
    simp[hm] at this
   cases hzf:oz.frozen with
   | true=>
    have hko:=hR.objs z _ hzo
    cases oz with
    | row fz e n l=>
     obtain⟨v',e1,e2⟩:=hko
     rw[hv] at e1
     cases e1
     exact e2.frozen hzf b (hb.one (Ro e2)) (hXX b hx)
    | mp fz e n l=>
     obtain⟨v',e1,e2⟩:=hko
     rw[hv] at e1
     cases e1
     exact e2.frozen hzf b (hb.one (Xa e2)) (hXX b hx)
    | box l=>cases hzy
    | fbox l=>cases hzy
    | rr hole e e2 n l=>cases hzf
    | fwd l=>cases hzy
    | itr cur e n l=>cases hzy
    | dead=>cases hzy
    | fresh=>cases hzy
   | false=>
    have hHz:Has st.objs ρ z b:=⟨_,v,hzo,O.giv_live hzy hzf,hv,hb⟩
    rcases hx with⟨k,hk⟩ | hx
    ·rcases hHas k b hk with⟨q,hkb,hh⟩ | ⟨i,k',_,q,hh,_⟩
     ·have:=hR.sep q z b hh hHz
      subst this
      obtain⟨l',hl'⟩:=nP h.items cs hg _ hkb
      rw[hzo] at hl';cases hl';cases hzy
     ·have:=hR.sep k' z b hh hHz
      subst this
      exact hzr (List.mem_of_getElem? q)
    ·exact hR.xc b hHz.mut hx
  ·rcases List.mem_append.1 hp with hp | hp
   ·rw[hρbox p hp];exact hv
   ·obtain⟨i,e1,e2⟩:=hpairs p hp
    rw[hρrow i _ _ e1 e2];exact hv
 have hRef:Refines w (XB st.objs ρ Xc) ρ (XB objs'' ρ'' Xc) ρ'' cs (yU h.shapes t):=⟨hturn ρ'' _ hT,SU h.shapes cs hf t⟩
 have hnpE:=lX h.items (yU h.shapes t) (iI st.np st.env.length st.objs.length)
 have hbm:∀k∈dJ h.items,k<(iI st.np st.env.length st.objs.length).objs.length:=fun k hk=>by
  have:=hk1 k (List.mem_append.2 (.inl hk))
  simp[iI];omega
 refine⟨ρ'',fun k hk=>?_,by rw[show (cW h st.np st.env.length st.objs.length t).env.length=st.env.length by rw[show (cW h st.np st.env.length st.objs.length t).env.length=_ from hnpE.2.1];simp[iI]];exact hR.len,
  tZ hR h.items cs _ _ hρbox hg hRef (Iy _ _ _ _),fun k o ho=>?_,fun k k' b hk hk'=>?_,fun b hb=>?_,fun k hk=>?_,hR.defers,hR.frame,hR.xcl,fun b hb=>?_,fun p hp=>by rw[hex] at hp;simp at hp⟩
 ·have hb:k∉dJ h.items:=fun hb=>by have:=hk1 k (List.mem_append.2 (.inl hb));omega
  have hr:k∉bV h.shapes:=fun hr=>by have:=hk1 k (List.mem_append.2 (.inr hr));omega
  show ρ'' k=none
  simp only[ρ'',hpn k hb,hsrcnone k hr]
  rw[if_neg (by omega)]
 ·-- the objects
  have ho':objs''[k]?=some o:=ho
  by_cases hb:k∈dJ h.items
  ·obtain⟨q,l,l',q0,q1,q2,q3⟩:=(rE hR h.items cs _ _ hg hRef hb3 hbm k).2 hb
   have:objs''[k]?=some (.box l'):=by
    show (lV _ _)[k]?=_
    rw[pG _ _ k (by rw[eX];exact fun hr=>hnotbox k hr hb)]
    exact q2
   rw[this] at ho'
   cases ho'
   obtain⟨v,e1,g,ys,ty,e2,e3,e0,e4⟩:=hR.objs q _ q1
   exact⟨v,(hρbox _ q0).trans e1,g,ys,ty,e2,e3,q3.2.head e0,q3.1 _ e4⟩
  ·by_cases hr:k∈bV h.shapes
   ·obtain⟨i,o',sr,q1,q2,q3,q4,q5,q6⟩:=hrowi k hr
    rw[q2] at ho'
    cases ho'
    have hρk:=hρrow i k sr q1 q3
    cases sr with
    | none=>
     obtain⟨e,n,rfl,hn⟩:=q6 rfl
     exact⟨Xr,hρk,hn,.nil n,⟨[],rowAt.nil w e n,⟨rfl,fun i t y h1 _=>by simp[flat] at h1⟩⟩,fun hc=>by cases hc⟩
    | some k'=>
     have hk':=q5 k' rfl
     have hko:=hR.objs k' _ hk'
     cases o with
     | row fz e n l=>
      obtain⟨v,e1,e2⟩:=hko
      have e3:=e2.step (X':=XB objs'' ρ'' Xc) (.refl (fun _=>False) w) (fun _ hb=>False.elim hb) (fun b hb=>.inl (hXX b hb)) (.refl ρ) (fun _ _ h=>h)
      exact⟨v,hρk.trans e1,e3⟩
     | mp fz e n l=>
      obtain⟨v,e1,e2⟩:=hko
      have e3:=e2.step (X':=XB objs'' ρ'' Xc) (.refl (fun _=>False) w) (fun _ hb=>False.elim hb) (fun b hb=>.inl (hXX b hb)) (.refl ρ) (fun _ _ h=>h)
      exact⟨v,hρk.trans e1,e3⟩
     | rr hole e e2' n l=>
      obtain⟨v,e1,e2⟩:=hko
      have e3:=okR.step (X':=XB objs'' ρ'' Xc) e2 (.refl (fun _=>False) w) (fun _ hb=>False.elim hb) (fun b hb=>.inl (hXX b hb)) (fun _ _ h=>h)
      exact⟨v,hρk.trans e1,e3⟩
     | itr cur e n l=>
      obtain⟨v,e1,e2⟩:=hko
      have e3:=okO.step (X':=XB objs'' ρ'' Xc) (o:=.itr cur e n l) (ρ:=ρ) e2 (.refl (fun _=>False) w) (fun _ hb=>False.elim hb) (fun b hb=>.inl (hXX b hb)) (.refl ρ) (fun _ _ h=>h)
      exact⟨v,hρk.trans e1,e3⟩
     | fwd l=>cases q4
     | box l=>cases q4
     | fbox l=>cases q4
     | dead=>cases q4
     | fresh=>cases q4
   ·rw[hother k hb hr,wL hnpm] at ho'
    split at ho'
    ·cases ho';trivial
    ·split at ho'
     ·cases ho'
      show ρ'' k=none
      simp only[ρ'',hpn k hb,hsrcnone k hr]
      rw[if_neg (by assumption)]
     ·cases ho'
 ·-- apart
  rcases hHas k b hk with⟨p,hkb,hh⟩ | ⟨i,q,q1,q2,hh,oq,hq,hqf⟩ <;> rcases hHas k' b hk' with⟨p',hkb',hh'⟩ | ⟨i',q',q1',q2',hh',oq',hq',hqf'⟩
  ·have:=hR.sep p p' b hh hh'
   subst this
   exact XR hbn hkb hkb'
  ·have:=hR.sep p q' b hh hh'
   subst this
   obtain⟨l'',hl''⟩:=nP h.items cs hg _ hkb
   rw[hq'] at hl'';cases hl'';cases hqf'
  ·have:=hR.sep q p' b hh hh'
   subst this
   obtain⟨l'',hl''⟩:=nP h.items cs hg _ hkb'
   rw[hq] at hl'';cases hl'';cases hqf
  ·have:=hR.sep q q' b hh hh'
   subst this
   have:=Q4 hnd q2 q2'
   subst this
   rw[q1] at q1'
   cases q1'
   rfl
 ·obtain⟨k,hk⟩:=hb
  rcases hHas k b hk with⟨_,_,hh⟩ | ⟨_,k',_,_,hh,_⟩
  ·exact hR.own b hh.mut
  ·exact hR.own b hh.mut
 ·have hk':k<st.np:=by rw[←show (cW h st.np st.env.length st.objs.length t).np=st.np from hnpE.1];exact hk
  rw[←hR.par k hk']
  by_cases hb:k∈dJ h.items
  ·obtain⟨q,hq⟩:=hsrc k hb
   have:=List.all_eq_true.1 hbk _ hq
   simp only[Bool.or_eq_true,beq_iff_eq,decide_eq_true_eq] at this
   rcases this with this | this
   ·have e:=hρbox _ hq
    rw[←this]
    rw[←this] at e
    exact e
   ·omega
  ·by_cases hr:k∈bV h.shapes
   ·obtain⟨i,_,sr,q1,_,q3,_⟩:=hrowi k hr
    have:=N2 hkeep q1 q3
    rcases this with this | this
    ·omega
    ·subst this
     exact hρrow i k _ q1 q3
   ·show ρ'' k=ρ k
    simp only[ρ'',hpn k hb,hsrcnone k hr,if_pos hk']
 ·obtain⟨k,hk⟩:=hb
  rcases hHas k b hk with⟨_,_,hh⟩ | ⟨_,k',_,_,hh,_⟩
  ·exact hR.xc b hh.mut
  ·exact hR.xc b hh.mut
theorem Me{h:Hint}{f:sH h.shapes→Option R}(hex:ρ0.ex=[])(hR:Rel w0 F Xc ρ0 ρ st a w)(hf:E4 h st f=some r):
 ∃t,f t=some r∧∃ρ'',Rel w0 F Xc ρ0 ρ'' (cW h st.np st.env.length st.objs.length t) a w:=by
 obtain⟨t,h1,_,ρ'',_,h2⟩:=JG hex hR hf
 exact⟨t,h1,ρ'',h2⟩
def rF:List It→List Nat
 | []=>[]
 | .slot i::l=>i::rF l
 | .aggs i _::l=>i::rF l
 | .box _ _::l=>rF l
 | .boxr i _ _::l=>i::rF l
theorem zP{α:Type}{l l':List α}{n j:Nat}{d:α}(hl:n≤l.length)(hl':n≤l'.length)(h:∀i,i<n→l[i]?=l'[i]?):∀i,i<n→(l.set j d)[i]?=(l'.set j d)[i]?:=fun i hi=>by
 rw[List.getElem?_set,List.getElem?_set]
 by_cases hj:j=i
 ·rw[if_pos hj,if_pos hj,if_pos (by omega),if_pos (by omega)]
 ·rw[if_neg hj,if_neg hj,h i hi]
theorem rG{n m:Nat}:∀(items:List It) (cs:List C) (s s':St),n≤s.env.length→n≤s'.env.length→m≤s.objs.length→m≤s'.objs.length→(∀i,i<n→s.env[i]?=s'.env[i]?)→(∀i,i<m→s.objs[i]?=s'.objs[i]?) →
 (∀i,i<n→(dH items cs s).env[i]?=(dH items cs s').env[i]?)∧∀i,i<m→(dH items cs s).objs[i]?=(dH items cs s').objs[i]?
 | [],_,s,s',_,_,_,_,h1,h2=>⟨h1,h2⟩
 | .slot i::l,cs,s,s',e1,e2,e3,e4,h1,h2=>rG l _ { s with env:=s.env.set i _ } { s' with env:=s'.env.set i _ } (by simpa using e1) (by simpa using e2) e3 e4 (zP e1 e2 h1) h2
 | .aggs i n::l,cs,s,s',e1,e2,e3,e4,h1,h2=>rG l _ { s with env:=s.env.set i _ } { s' with env:=s'.env.set i _ } (by simpa using e1) (by simpa using e2) e3 e4 (zP e1 e2 h1) h2
 | .box k n::l,cs,s,s',e1,e2,e3,e4,h1,h2=>rG l _ { s with objs:=s.objs.set k _ } { s' with objs:=s'.objs.set k _ } e1 e2 (by simpa using e3) (by simpa using e4) h1 (zP e3 e4 h2)
 | .boxr i k n::l,cs,s,s',e1,e2,e3,e4,h1,h2=>rG l _ { s with env:=s.env.set i _,objs:=s.objs.set k _ } { s' with env:=s'.env.set i _,objs:=s'.objs.set k _ } (by simpa using e1) (by simpa using e2) (by simpa using e3) (by simpa using e4) (zP e1 e2 h1) (zP e3 e4 h2)
theorem G8{m:Nat}:∀(l:List (Nat×O)) (o o':List O),m≤o.length→m≤o'.length→(∀i,i<m→o[i]?=o'[i]?)→∀i,i<m→(lV o l)[i]?=(lV o' l)[i]?
 | [],_,_,_,_,h=>h
 | p::l,o,o',e1,e2,h=>G8 l _ _ (by simpa using e1) (by simpa using e2) (zP e1 e2 h)
theorem KS{h:Hint}{np n n' m m':Nat}{t:sH h.shapes}(hn:n≤n')(hm:m≤m')(hnp:np≤m):
 (∀i,i<n→(cW h np n m t).env[i]?=(cW h np n' m' t).env[i]?)∧∀i,i<m→(cW h np n m t).objs[i]?=(cW h np n' m' t).objs[i]?:=by
 have h1:(iI np n m).env.length=n:=by simp[iI]
 have h2:(iI np n' m').env.length=n':=by simp[iI]
 have h3:(iI np n m).objs.length=m:=by simp[iI];omega
 have h4:(iI np n' m').objs.length=m':=by simp[iI];omega
 obtain⟨a1,a2⟩:=rG (n:=n) (m:=m) h.items (yU h.shapes t) (iI np n m) (iI np n' m') (by omega) (by omega) (by omega) (by omega)
  (fun i hi=>by simp only[iI,List.getElem?_replicate];rw[if_pos hi,if_pos (by omega)])
  (fun i hi=>by rw[wL hnp,wL (by omega)];by_cases hk:i<np <;> simp[hk,hi];omega)
 refine⟨a1,G8 _ _ _ ?_ ?_ a2⟩
 ·rw[(lX _ _ _).2.2,h3];exact Nat.le_refl _
 ·rw[(lX _ _ _).2.2,h4];exact hm
theorem uA:∀(items:List It) (cs:List C) (s:St) (i:Nat),i∉rF items→(dH items cs s).env[i]?=s.env[i]?
 | [],_,_,_,_=>rfl
 | .slot j::l,cs,s,i,h=>by
  simp only[rF,List.mem_cons,not_or] at h
  simp only[dH]
  rw[uA l _ _ i h.2,List.getElem?_set_ne (fun e=>h.1 e.symm)]
 | .aggs j n::l,cs,s,i,h=>by
  simp only[rF,List.mem_cons,not_or] at h
  simp only[dH]
  rw[uA l _ _ i h.2,List.getElem?_set_ne (fun e=>h.1 e.symm)]
 | .box k n::l,cs,s,i,h=>by
  simp only[rF] at h
  simp only[dH]
  rw[uA l _ _ i h]
 | .boxr j k n::l,cs,s,i,h=>by
  simp only[rF,List.mem_cons,not_or] at h
  simp only[dH]
  rw[uA l _ _ i h.2,List.getElem?_set_ne (fun e=>h.1 e.symm)]
theorem AN{h:Hint}{np n m:Nat}{t:sH h.shapes}(hm:np≤m):(cW h np n m t).np=np∧(cW h np n m t).env.length=n∧(cW h np n m t).objs.length=m:=by
 obtain⟨h1,h2,h3⟩:=lX h.items (yU h.shapes t) (iI np n m)
 refine⟨h1,h2.trans (by simp[iI]),?_⟩
 show (lV _ _).length=_
 rw[KQ,h3]
 simp[iI];omega
theorem EI{R:Type}{h:Hint}{st:St}(f:sH h.shapes→Option R):E4 h st f=(E4 h st some).bind f:=by
 unfold E4
 split
 ·dsimp only
  refine(G7 _ _ _).trans (Eq.trans ?_ (congrArg (fun z:Option (sH h.shapes)=>z.bind f) (G7 _ _ _)).symm)
  rw[Option.bind_assoc]
  refine congrArg _ (funext fun p=>?_)
  split <;> rfl
 ·rfl
end
inductive Pos where
 | slot (i:Nat)
 | agg (i j:Nat)
 | box (k j:Nat)
 | boxr (i j:Nat)
def aBL:It→List Pos
 | .slot i=>[.slot i]
 | .aggs i n=>(List.range n).map fun j=>.agg i j
 | .box k n=>(List.range n).map fun j=>.box k j
 | .boxr i _ n=>(List.range n).map fun j=>.boxr i j
def St.at(st:St):Pos→Option C
 | .slot i=>match st.env[i]? with
  | some (.s (.c c))=>some c
  | _=>none
 | .agg i j=>match st.env[i]? with
  | some (.s (.agg l))=>l[j]?
  | _=>none
 | .box k j=>match st.objs[k]? with
  | some (.box l)=>l[j]?
  | _=>none
 | .boxr i j=>match st.env[i]? with
  | some (.s (.c (.box k 0)))=>match st.objs[k]? with
   | some (.box l)=>l[j]?
   | _=>none
  | _=>none
def St.wr(st:St)(c:C):Pos→St
 | .slot i=>{ st with env:=st.env.set i (.s (.c c)) }
 | .agg i j=>match st.env[i]? with
  | some (.s (.agg l))=>{ st with env:=st.env.set i (.s (.agg (l.set j c))) }
  | _=>st
 | .box k j=>match st.objs[k]? with
  | some (.box l)=>{ st with objs:=st.objs.set k (.box (l.set j c)) }
  | _=>st
 | .boxr i j=>match st.env[i]? with
  | some (.s (.c (.box k 0)))=>match st.objs[k]? with
   | some (.box l)=>{ st with objs:=st.objs.set k (.box (l.set j c)) }
   | _=>st
  | _=>st
def XS(st:St)(p:Pos)(s:Sh):St:=match s with
 | .row e n _=>match st.at p with
  | some (.cut key m lo len _)=>match st.objs[key]? with
   | some (.row false e' n' es)=>if e'=e∧n'=n∧m=n then match uR st with
    | some K=>St.wr { st with objs:=(st.objs.set key .dead).set K (.row false e n (iM es lo len)) } (.row K) p
    | none=>st
    else st
   | _=>st
  | _=>st
 | _=>st
def LX(st:St):List Pos→List Sh→St
 | p::ps,s::ss=>LX (XS st p s) ps ss
 | _,_=>st
def Iz(h:Hint)(st:St):St:=LX st (h.items.flatMap aBL) h.shapes
theorem Xt(st:St)(c:C)(p:Pos):(st.wr c p).np=st.np∧(st.wr c p).env.length=st.env.length∧(st.wr c p).objs.length=st.objs.length:=by
 unfold St.wr
 cases p <;> dsimp only <;> repeat' (first | split | exact⟨rfl,rfl,rfl⟩ | exact⟨rfl,List.length_set ..,rfl⟩ | exact⟨rfl,rfl,List.length_set ..⟩)
theorem Mf(st:St)(p:Pos)(s:Sh):(XS st p s).np=st.np∧(XS st p s).env.length=st.env.length∧(XS st p s).objs.length=st.objs.length:=by
 unfold XS
 repeat' (first | split | exact⟨rfl,rfl,rfl⟩)
 obtain⟨h1,h2,h3⟩:=Xt { st with objs:=_ } _ p
 exact⟨h1,h2,by rw[h3];simp⟩
theorem XT:∀(ps:List Pos) (ss:List Sh) (st:St),(LX st ps ss).np=st.np∧(LX st ps ss).env.length=st.env.length∧(LX st ps ss).objs.length=st.objs.length
 | [],_,st=>by unfold LX;exact⟨rfl,rfl,rfl⟩
 | p::ps,[],st=>by unfold LX;exact⟨rfl,rfl,rfl⟩
 | p::ps,s::ss,st=>by
  unfold LX
  obtain⟨h1,h2,h3⟩:=XT ps ss (XS st p s)
  obtain⟨g1,g2,g3⟩:=Mf st p s
  exact⟨h1.trans g1,h2.trans g2,h3.trans g3⟩
theorem XU(h:Hint)(st:St):(Iz h st).np=st.np∧(Iz h st).env.length=st.env.length∧(Iz h st).objs.length=st.objs.length:=XT _ _ st
section
variable {w0 w:World} {F Xc:Nat→Prop} {ρ0:Base} {ρ:gU} {st:St} {a:Act}
theorem RdL.set{X:Nat→Prop}{l:List C}{ys:List Value}(h:RdL w X ρ l ys){j:Nat}{c:C}(hc:∀y,ys[j]?=some y→RdC1 w X ρ c y):RdL w X ρ (l.set j c) ys:=by
 refine⟨by simp[h.1],fun i c' y h1 h2=>?_⟩
 rw[List.getElem?_set] at h1
 split at h1
 ·rename_i e
  subst e
  split at h1
  ·cases h1;exact hc y h2
  ·cases h1
 ·exact h.2 i c' y h1 h2
theorem Rel.boxw(h:Rel w0 F Xc ρ0 ρ st a w){k:Nat}{l l':List C}(ho:st.objs[k]?=some (.box l))(hs:SelfLe l l')(hl:∀v g ys ty,ρ k=some v→v=.pointer (some ⟨g,0,none⟩)→w.heap[g]?=some (.cells ys ty (0,0))→RdL w (XB st.objs ρ Xc) ρ l ys.toList→RdL w (XB st.objs ρ Xc) ρ l' ys.toList):
 Rel w0 F Xc ρ0 ρ { st with objs:=st.objs.set k (.box l') } a w:=by
 have hlt:k<st.objs.length:=(List.getElem?_eq_some_iff.1 ho).1
 obtain⟨v,e1,g,ys,ty,e2,e3,e4,e5⟩:=h.objs k _ ho
 have hH:∀b,Has (st.objs.set k (.box l')) ρ k b→Has st.objs ρ k b:=fun b ⟨o',v',q1,q2,q3,q4⟩=>⟨_,v',ho,rfl,q3,q4⟩
 have hs0:Stp (fun _=>False) w w:=.refl _ w
 refine h.change (st.objs.set k (.box l')) ρ (·=k) hs0 (fun j hj=>⟨by rw[List.getElem?_set_ne (fun e=>hj e.symm)],rfl⟩) (.refl _) (fun _ hb=>hb.elim)
  (fun j b hj hh=>?_) (fun j j' b hj hj' _ _=>hj.trans hj'.symm) (fun hX j o' hj hoj=>?_) (fun _ _=>rfl)
 ·subst hj;exact .inl ⟨j,rfl,hH b hh⟩
 ·subst hj
  rw[List.getElem?_set_self hlt] at hoj
  cases hoj
  exact⟨v,e1,g,ys,ty,e2,e3,hs.head e4,(hl v g ys ty e1 e2 e3 e5).step hs0 (fun _ h=>h.elim) hX (.refl _)⟩
theorem SelfLe.setRow{l:List C}{j K:Nat}:SelfLe l (l.set j (.row K)):=fun i t hi=>by
 rw[List.getElem?_set] at hi
 split at hi
 ·split at hi <;> cases hi
 ·exact hi
theorem Sj(h:Rel w0 F Xc ρ0 ρ st a w)(p:Pos)(s:Sh):∃ρ',Rel w0 F Xc ρ0 ρ' (XS st p s) a w:=by
 unfold XS
 split
 case h_2=>exact⟨ρ,h⟩
 rename_i e n _
 split
 case h_2=>exact⟨ρ,h⟩
 rename_i key m lo len tg hat
 split
 case h_2=>exact⟨ρ,h⟩
 rename_i e' n' es hob
 split
 case isFalse=>exact⟨ρ,h⟩
 rename_i hcond
 obtain⟨rfl,rfl,rfl⟩:=hcond
 split
 case h_2=>exact⟨ρ,h⟩
 rename_i K hK
 obtain⟨k1,k2⟩:=KJ hK
 have hklt:key<st.objs.length:=(List.getElem?_eq_some_iff.1 hob).1
 have hKk:K≠key:=fun e=>by rw[e,hob] at k2;cases k2
 have step:∀y,RdC1 w (XB st.objs ρ Xc) ρ (.cut key m lo len tg) y→∃ρ',Rel w0 F Xc ρ0 ρ' { st with objs:=(st.objs.set key .dead).set K (.row false e' m (iM es lo len)) } a w∧ρ' K=some y∧Rle ρ ρ'∧y.oneCell'=true:=by
  intro y hy
  rcases hy with hy | ⟨⟨v,q1,q2⟩,h1⟩
  ·cases hy
  obtain⟨hv,e1,e2⟩:=h.objs key _ hob
  rw[q1] at e1
  cases e1
  obtain⟨hlen,huc,_,_⟩:=EC e2 q2
  obtain⟨h0,hu0,⟨xs,hown0,hr0⟩,_⟩:=e2
  obtain⟨d,rfl⟩:∃d,K=st.np+d:=⟨K-st.np,by omega⟩
  obtain⟨ρ',r1,r2,r3⟩:=NI h h0 hob q1 (fun b hb=>q2.blk hb) w d (iM es lo len) y _ (by rw[List.getElem?_set_ne (fun e=>hKk e.symm)];exact k2) (by rw[hlen];exact q2.row hown0) huc (World.grownBy.refl w _) (.inl rfl) (by
   have hfl:flat (iM es lo len)=((flat es).drop (lo*m)).take (len*m):=by unfold iM;rw[(hu0.drop lo).flat_take,hu0.flat_drop]
   rw[hfl]
   have hxl:=hr0.1
   refine⟨by simp[hxl],fun i t z h1 h2=>?_⟩
   rw[List.getElem?_take] at h1 h2
   split at h1
   ·rename_i hlt
    rw[if_pos hlt] at h2
    rw[List.getElem?_drop] at h1 h2
    exact hr0.2 _ t z h1 h2
   ·cases h1)
  exact⟨ρ',r1,r2,r3,h1⟩
 have other:∀(k:Nat) (l:List C),st.objs[k]?=some (.box l)→((st.objs.set key .dead).set K (.row false e' m (iM es lo len)))[k]?=some (.box l):=fun k l hk=>by
  have h1:K≠k:=fun e=>by rw[e,hk] at k2;cases k2
  have h2:key≠k:=fun e=>by rw[e,hk] at hob;cases hob
  rw[List.getElem?_set_ne h1,List.getElem?_set_ne h2];exact hk
 have boxcase:∀(k:Nat) (l:List C) (j:Nat),st.objs[k]?=some (.box l)→l[j]?=some (.cut key m lo len tg) →
  ∃ρ',Rel w0 F Xc ρ0 ρ' { st with objs:=((st.objs.set key .dead).set K (.row false e' m (iM es lo len))).set k (.box (l.set j (.row K))) } a w:=by
  intro k l j hk hj
  obtain⟨v,e1,g,ys,ty,e2,e3,e4,e5⟩:=h.objs k _ hk
  have hjl:j<ys.toList.length:=by rw[e5.1];exact(List.getElem?_eq_some_iff.1 hj).1
  obtain⟨ρ',r1,r2,r3,r4⟩:=step _ (e5.2 j _ _ hj (List.getElem?_eq_getElem hjl))
  refine⟨ρ',r1.boxw (other k l hk) SelfLe.setRow fun v' g' ys' ty' f1 f2 f3 f4=>f4.set fun y hy=>?_⟩
  rw[r3 _ _ e1] at f1
  cases f1
  rw[e2] at f2
  cases f2
  rw[e3] at f3
  cases f3
  rw[List.getElem?_eq_getElem hjl] at hy
  cases hy
  exact .inr ⟨r2,r4⟩
 cases p with
 | slot i=>
  simp only[St.at] at hat
  split at hat
  ·rename_i c hi
   cases hat
   have hil:i<a.tmps.size:=by rw[h.len];exact(List.getElem?_eq_some_iff.1 hi).1
   obtain⟨ρ',r1,r2,r3,r4⟩:=step _ (h.env i _ _ hi (Array.getElem?_eq_getElem hil))
   refine⟨ρ',r1.slot (d:=.s (.c (.row K))) fun y hy=>?_⟩
   rw[Array.getElem?_eq_getElem hil] at hy
   cases hy
   exact .inr ⟨r2,r4⟩
  ·cases hat
 | agg i j=>
  simp only[St.at] at hat
  split at hat
  ·rename_i l hi
   have hil:i<a.tmps.size:=by rw[h.len];exact(List.getElem?_eq_some_iff.1 hi).1
   have hd:=h.env i _ _ hi (Array.getElem?_eq_getElem hil)
   obtain⟨cs,hcs,hl⟩:=hd
   have hjl:j<cs.toList.length:=by rw[hl.1];exact(List.getElem?_eq_some_iff.1 hat).1
   obtain⟨ρ',r1,r2,r3,r4⟩:=step _ (hl.2 j _ _ hat (List.getElem?_eq_getElem hjl))
   have hd':=r1.env i _ _ hi (Array.getElem?_eq_getElem hil)
   obtain⟨cs',hcs',hl'⟩:=hd'
   rw[hcs] at hcs'
   cases hcs'
   simp only[St.wr,hi]
   refine⟨ρ',r1.slot (d:=.s (.agg (l.set j (.row K)))) fun y hy=>?_⟩
   rw[Array.getElem?_eq_getElem hil] at hy
   cases hy
   refine⟨cs,hcs,hl'.set fun y hy=>?_⟩
   rw[List.getElem?_eq_getElem hjl] at hy
   cases hy
   exact .inr ⟨r2,r4⟩
  ·cases hat
 | box k j=>
  simp only[St.at] at hat
  split at hat
  ·rename_i l hk
   have ho:=other k l hk
   simp only[St.wr,ho]
   exact boxcase k l j hk hat
  ·cases hat
 | boxr i j=>
  simp only[St.at] at hat
  split at hat
  ·rename_i k hi
   split at hat
   ·rename_i l hk
    have ho:=other k l hk
    simp only[St.wr,hi,ho]
    exact boxcase k l j hk hat
   ·cases hat
  ·cases hat
theorem Em:∀(ps:List Pos) (ss:List Sh) {st:St} {ρ:gU},Rel w0 F Xc ρ0 ρ st a w→∃ρ',Rel w0 F Xc ρ0 ρ' (LX st ps ss) a w
 | [],_,st,ρ,h=>by unfold LX;exact⟨ρ,h⟩
 | p::ps,[],st,ρ,h=>by unfold LX;exact⟨ρ,h⟩
 | p::ps,s::ss,st,ρ,h=>by
  unfold LX
  obtain⟨ρ1,h1⟩:=Sj h p s
  exact Em ps ss h1
theorem Eo(hh:Hint)(h:Rel w0 F Xc ρ0 ρ st a w):∃ρ',Rel w0 F Xc ρ0 ρ' (Iz hh st) a w:=Em _ _ h
end
open Classical in
noncomputable def N3{R:Type}(a b:Option R):Option R:=if a=b then a else none
theorem N4{R:Type}{a b:Option R}{r:R}(h:N3 a b=some r):a=some r∧b=some r:=by
 unfold N3 at h
 split at h
 ·rename_i e;exact⟨h,e▸h⟩
 ·cases h
theorem Mg{R:Type}{a b:Option R}{r:R}(h1:a=some r)(h2:b=some r):N3 a b=some r:=by
 unfold N3
 rw[h1,h2,if_pos rfl]
noncomputable def GA{R:Type}:List (Option R)→Option R
 | []=>none
 | [x]=>x
 | x::l=>N3 x (GA l)
noncomputable def N5{S E R:Type}(F:S→List (Option (S⊕E)))(K:E→Option R):Nat→S→Option R
 | 0,_=>none
 | n+1,s=>GA ((F s).map fun o=>match o with
  | some (.inl s')=>N5 F K n s'
  | some (.inr q)=>K q
  | none=>none)
open Classical in
noncomputable def Xu{S E R:Type}(F:S→List (Option (S⊕E)))(K:E→Option R)(s:S):Option R:=if h:∃n r,N5 F K n s=some r then N5 F K (Classical.choose h) s else none
theorem KT{R:Type}:∀{l:List (Option R)} {r:R},GA l=some r→∀o∈l,o=some r
 | [],r,h=>by simp[GA] at h
 | [x],r,h=>fun o ho=>by simp only[List.mem_singleton] at ho;subst ho;simpa[GA] using h
 | x::y::l,r,h=>fun o ho=>by
  rw[GA] at h
  obtain⟨h1,h2⟩:=N4 h
  rcases List.mem_cons.1 ho with rfl | ho
  ·exact h1
  ·exact KT h2 o ho
  all_goals simp
theorem Ja{S E R:Type}{F:S→List (Option (S⊕E))}{K:E→Option R}{s:S}{r:R}(h:Xu F K s=some r):∃n,N5 F K n s=some r:=by
 unfold Xu at h
 split at h
 ·exact⟨_,h⟩
 ·cases h
section
variable {R:Type} (P:Program)
def Mh(P:Program)(st:St)(dst:Option Nat)(t:TypeId)(x:D)(k:St→D→Option R):Option R:=none
def Mi(P:Program)(st:St)(x:D)(k:St→D→Option R):Option R:=none
def Mj{α:Type}(st:St)(dst:Option Nat)(x:D)(k:St→α):List α:=[]
end
section
variable {R:Type} {P:Program} {w0 w:World} {F Xc:Nat→Prop} {ρ0:Base} {ρ:gU} {st:St} {a:Act} {r:R} {Q:Exit→Act→World→Prop}
theorem Jb{dst:Option Nat}{t:TypeId}{x:D}{vx:Value}{k:St→D→Option R}(h:Rel w0 F Xc ρ0 ρ st a w)(hx:RdD w (XB st.objs ρ Xc) ρ x vx)(hk:Mh P st dst t x k=some r):
 ∃y w' ρ' st' d,(Instr.range t vx).run P w=.ok y w'∧Rel w0 F Xc ρ0 ρ' st' a w'∧RdD w' (XB st'.objs ρ' Xc) ρ' d y∧k st' d=some r:=by
 cases hk
theorem Jc{x:D}{vx:Value}{k:St→D→Option R}(h:Rel w0 F Xc ρ0 ρ st a w)(hx:RdD w (XB st.objs ρ Xc) ρ x vx)(hk:Mi P st x k=some r):
 ∃y st' d,(Instr.entry vx).run P w=.ok y w∧Rel w0 F Xc ρ0 ρ st' a w∧RdD w (XB st'.objs ρ Xc) ρ d y∧k st' d=some r:=by
 cases hk
theorem Mk{α:Type}{o:Oper}{x:Operand}{next:Act→World→Prop}{k:St→α}(ho:o.op=.next x false)(h:Rel w0 F Xc ρ0 ρ st a w)(hne:Mj st o.dst (ev st x) k≠[])
 (hn:∀ρ' st' a' w',Rel w0 F Xc ρ0 ρ' st' a' w'→k st'∈Mj st o.dst (ev st x) k→next a' w'):o.wp P a w next Q:=by
 exact(hne rfl).elim
end
inductive AEx where
 | normal
 | exit (id:Nat)
 | ret
 deriving DecidableEq
def AEx.ex:AEx→Exit
 | .normal=>.normal
 | .exit id=>.exit id
 | .ret=>.ret
inductive ACode where
 | skip
 | ret
 | exit (id:Nat)
 | region (id:Nat) (ops:Array Oper) (draw:Bool)
 | seq (x y:ACode)
 | cond (c:Operand) (x y:ACode)
 | block (id:Nat) (x:ACode)
 | scope (x:ACode)
 | label (l:Nat)
 | loop (h:Hint) (xs:List (AEx×Hint)) (x:ACode)
 | join (xs:List (AEx×Hint)) (x:ACode)
 | unr (n:Nat) (x:ACode)
 | regR (id:Nat) (ops:Array Oper)
 | rng (id:Nat) (ops:Array Oper) (h:Hint) (xs:List (AEx×Hint)) (x:ACode)
def ACode.code:ACode→Code
 | .skip=>.skip
 | .ret=>.ret
 | .exit id=>.exit id
 | .region id ops draw=>.region id ops draw
 | .seq x y=>.seq x.code y.code
 | .cond c x y=>.cond c x.code y.code
 | .block id x=>.block id x.code
 | .scope x=>.scope x.code
 | .label l=>.label l
 | .loop _ _ x=>.loop x.code
 | .join _ x=>x.code
 | .unr _ x=>.loop x.code
 | .regR id ops=>.region id ops false
 | .rng id ops _ _ x=>.loop (.seq (.region id ops false) x.code)
def ACode.flat:ACode→Bool
 | .seq x y=>x.flat&&y.flat
 | .cond _ x y=>x.flat&&y.flat
 | .block _ x=>x.flat
 | .scope x=>x.flat
 | .loop _ _ _=>false
 | .join _ _=>false
 | .unr _ x=>x.flat
 | .regR _ _=>false
 | .rng _ _ _ _ _=>false
 | _=>true
def qW{S E:Type}(F:S→Option (S⊕E)):Nat→S→Option E
 | 0,_=>none
 | n+1,s=>match F s with
  | some (.inl s')=>qW F n s'
  | some (.inr e)=>some e
  | none=>none
open Classical in
noncomputable def aI{S E:Type}(F:S→Option (S⊕E))(s:S):Option E:=if h:∃n e,qW F n s=some e then qW F (Classical.choose h) s else none
theorem SV{S E:Type}{F:S→Option (S⊕E)}:∀{n:Nat} {s:S} {e:E},qW F n s=some e→qW F (n+1) s=some e
 | 0,s,e,h=>by simp[qW] at h
 | n+1,s,e,h=>by
  rw[qW] at h ⊢
  split at h
  ·exact SV h
  ·exact h
  ·cases h
theorem Ep{S E:Type}{F:S→Option (S⊕E)}{n m:Nat}{s:S}{e:E}(h:qW F n s=some e)(hm:n≤m):qW F m s=some e:=by
 obtain⟨d,rfl⟩:=Nat.le.dest hm
 induction d with
 | zero=>exact h
 | succ d ih=>exact SV (ih (Nat.le_add_right _ _))
theorem qJ{S E:Type}{F:S→Option (S⊕E)}{s:S}{e:E}:aI F s=some e↔∃n,qW F n s=some e:=by
 unfold aI
 constructor
 ·intro h
  split at h
  ·exact⟨_,h⟩
  ·cases h
 ·rintro ⟨n,h⟩
  have hex:∃n e,qW F n s=some e:=⟨n,e,h⟩
  rw[dif_pos hex]
  obtain⟨e',he'⟩:=Classical.choose_spec hex
  have h1:=Ep he' (Nat.le_max_left (Classical.choose hex) n)
  have h2:=Ep h (Nat.le_max_right (Classical.choose hex) n)
  rw[he']
  rw[h1] at h2
  exact h2
theorem XV{S E:Type}(F:S→Option (S⊕E))(s:S):aI F s=match F s with
 | some (.inl s')=>aI F s'
 | some (.inr e)=>some e
 | none=>none:=by
 cases hF:F s with
 | none=>
  cases hl:aI F s with
  | none=>rfl
  | some e=>
   obtain⟨n,hn⟩:=qJ.1 hl
   cases n with
   | zero=>simp[qW] at hn
   | succ n=>simp[qW,hF] at hn
 | some x=>
  cases x with
  | inr e=>exact qJ.2 ⟨1,by simp[qW,hF]⟩
  | inl s'=>
   simp only
   cases hl:aI F s' with
   | some e=>
    obtain⟨n,hn⟩:=qJ.1 hl
    exact qJ.2 ⟨n+1,by simp[qW,hF,hn]⟩
   | none=>
    cases hl2:aI F s with
    | none=>rfl
    | some e=>
     obtain⟨n,hn⟩:=qJ.1 hl2
     cases n with
     | zero=>simp[qW] at hn
     | succ n=>
      simp only[qW,hF] at hn
      rw[qJ.2 ⟨n,hn⟩] at hl;cases hl
def EP:List (AEx×Hint)→Type
 | []=>Empty
 | p::l=>sH p.2.shapes⊕EP l
section
variable {R:Type}
def E5(np n m:Nat)(h:Hint)(st:St)(f:sH h.shapes→Option R):Option R:=if st.np=np∧st.env.length=n∧st.objs.length=m then E4 h (Iz h st) f else none
def E6(np n m:Nat):(xs:List (AEx×Hint))→AEx→St→(EP xs→Option R)→Option R
 | [],_,_,_=>none
 | p::l,x,st,f=>if p.1=x then E5 np n m p.2 st fun t=>f (.inl t) else E6 np n m l x st fun q=>f (.inr q)
def dE{α β:Type}(q:α⊕β)(f:α→Option R)(g:β→Option R):Option R:=match q with
 | .inl t=>f t
 | .inr q=>g q
def eB(_:Empty):Option R:=none
def AO(np n m:Nat):(xs:List (AEx×Hint))→EP xs→(AEx→St→Option R)→Option R
 | [],q,_=>eB q
 | p::l,q,k=>dE (α:=sH p.2.shapes) (β:=EP l) q (fun t=>k p.1 (cW p.2 np n m t)) fun q=>AO np n m l q k
end
def Ml{R:Type}(F:St→(AEx→St→Option R)→Option R):Nat→St→(AEx→St→Option R)→Option R
 | 0,_,_=>none
 | n+1,st,k=>F st fun e st'=>match e with
  | .normal=>Ml F n st' k
  | e=>k e st'
noncomputable def Mm{R:Type}(amb:Bool)(d:D)(a b:Option R):Option R:=match amb,d with
 | true,.s (.c .amb)=>N3 a b
 | _,d=>QW d fun q=>bif q then a else b
section
variable {R:Type} (P:Program) (Γ:FuncId→Option Callee)
def N6(ops:Array Oper):List Nat→St→(St→Option R)→Option R
 | [],st,k=>k st
 | i::rest,st,k=>match ops[i]? with
  | none=>N6 ops rest st k
  | some o=>match o.guard,o.op with
   | none,.range t x=>Mh P st o.dst t (ev st x) fun st d=>N6 ops rest (st.put o.dst d) k
   | none,.entry x=>Mi P st (ev st x) fun st d=>N6 ops rest (st.put o.dst d) k
   | _,_=>CO P Γ ops [i] st fun st=>N6 ops rest st k
def Jd{E:Type}(ops:Array Oper)(st:St)(k:St→Option E):List (Option E):=match ops[0]? with
 | some o=>match o.guard,o.op with
  | none,.next x false=>Mj st o.dst (ev st x) fun st=>CO P Γ ops (List.range ops.size).tail st k
  | _,_=>[]
 | none=>[]
end
section
variable (P:Program) (Γ:FuncId→Option Callee) (dok:Array Oper→Bool) (np n m:Nat) (amb:Bool)
noncomputable def fV:ACode→(R:Type)→St→(AEx→St→Option R)→Option R
 | .skip,_,st,k=>k .normal st
 | .ret,_,st,k=>k .ret st
 | .exit id,_,st,k=>k (.exit id) st
 | .region _ ops draw,_,st,k=>if draw=false∨dok ops=true then CO P Γ ops (List.range ops.size) st fun st=>k .normal st else none
 | .seq x y,R,st,k=>fV x R st fun e st=>match e with
  | .normal=>fV y R st k
  | e=>k e st
 | .cond c x y,R,st,k=>Mm amb (ev st c) (fV x R st k) (fV y R st k)
 | .block id x,R,st,k=>fV x R st fun e st=>match e with
  | .exit j=>if j=id then k .normal st else k (.exit j) st
  | e=>k e st
 | .scope x,R,st,k=>fV x R st k
 | .label _,_,st,k=>k .normal st
 | .loop h xs x,R,st,k=>E5 np n m h st fun s0=>ob (aI (fun s=>fV x (sH h.shapes⊕EP xs) (cW h np n m s) fun e st'=>match e with
  | .normal=>E5 np n m h st' fun s'=>some (.inl s')
  | e=>E6 np n m xs e st' fun q=>some (.inr q)) s0) fun q=>AO np n m xs q k
 | .join xs x,R,st,k=>ob (fV x (EP xs) st fun e st'=>E6 np n m xs e st' some) fun q=>AO np n m xs q k
 | .unr i x,R,st,k=>Ml (fun st k=>fV x R st k) i st k
 | .regR _ ops,_,st,k=>N6 P Γ ops (List.range ops.size) st fun st=>k .normal st
 | .rng _ ops h xs x,R,st,k=>E5 np n m h st fun s0=>Xu (fun s=>Jd P Γ ops (cW h np n m s) fun st=>fV x (sH h.shapes⊕EP xs) st fun e st'=>match e with
  | .normal=>E5 np n m h st' fun s'=>some (.inl s')
  | e=>E6 np n m xs e st' fun q=>some (.inr q)) (fun q=>AO np n m xs q k) s0
end
section
variable {R:Type} {P:Program} {Γ:FuncId→Option Callee} {dok:Array Oper→Bool} {w0:World} {F Xc:Nat→Prop} {ρ0:Base} {r:R}
def UK(P:Program)(Γ:FuncId→Option Callee)(dok:Array Oper→Bool):Prop:=
 ∀(ops:Array Oper),dok ops=true→∀{R:Type} (w0:World) (F Xc:Nat→Prop) (ρ0:Base) (ρ:gU) (st:St) (a:Act) (w:World) (k:St→Option R) (r:R) (Q:Exit→Act→World→Prop) (t:Nat),
  Good P w0 F→Rel w0 F Xc ρ0 ρ st a w→CO P Γ ops (List.range ops.size) st k=some r→(∀ρ' st' a' w',Rel w0 F Xc ρ0 ρ' st' a' w'→k st'=some r→Q .normal a' w') →
  wpOps P ops Q (Region.schedule (P.follows .mixedOrders) ops t) a w
theorem CQ{np n m:Nat}{h:Hint}{f:sH h.shapes→Option R}{st:St}{ρ:gU}{a:Act}{w:World}(hex:ρ0.ex=[])(hR:Rel w0 F Xc ρ0 ρ st a w)(hf:E5 np n m h st f=some r):
 ∃t,f t=some r∧∃ρ'',Rel w0 F Xc ρ0 ρ'' (cW h np n m t) a w:=by
 unfold E5 at hf
 split at hf
 ·rename_i hd
  obtain⟨h1,h2,h3⟩:=hd
  subst h1;subst h2;subst h3
  obtain⟨ρ1,hR1⟩:=Eo h hR
  obtain⟨e1,e2,e3⟩:=XU h st
  have:=Me hex hR1 hf
  rw[e1,e2,e3] at this
  exact this
 ·cases hf
theorem zQ{np n m:Nat}(hex:ρ0.ex=[]):∀(xs:List (AEx×Hint)) (e:AEx) (st:St) (f:EP xs→Option R) {ρ:gU} {a:Act} {w:World},Rel w0 F Xc ρ0 ρ st a w →
 E6 np n m xs e st f=some r→∃q,f q=some r∧∃ρ'' st'',Rel w0 F Xc ρ0 ρ'' st'' a w∧∀{R':Type} (k:AEx→St→Option R'),AO np n m xs q k=k e st''
 | [],e,st,f,ρ,a,w,h,hf=>by simp[E6] at hf
 | p::l,e,st,f,ρ,a,w,h,hf=>by
  simp only[E6] at hf
  split at hf
  ·rename_i he
   obtain⟨t,ht,ρ'',hR⟩:=CQ hex h hf
   exact⟨.inl t,ht,ρ'',_,hR,fun k=>by subst he;rfl⟩
  ·obtain⟨q,hq,ρ'',st'',hR,hk⟩:=zQ hex l e st _ h hf
   exact⟨.inr q,hq,ρ'',st'',hR,fun k=>hk k⟩
theorem CR{ops:Array Oper}{Q:Exit→Act→World→Prop}(hΓ:GOK P Γ)(hG:Good P w0 F):∀(l:List Nat) {ρ:gU} {st:St} {a:Act} {w:World} {k:St→Option R},Rel w0 F Xc ρ0 ρ st a w→N6 P Γ ops l st k=some r →
 (∀ρ' st' a' w',Rel w0 F Xc ρ0 ρ' st' a' w'→k st'=some r→Q .normal a' w')→wpOps P ops Q l a w
 | [],ρ,st,a,w,k,h,hk,hn=>hn ρ st a w h hk
 | i::rest,ρ,st,a,w,k,h,hk,hn=>by
  simp only[N6] at hk
  split at hk
  ·rename_i ho
   simp only[wpOps,ho]
   exact CR hΓ hG rest h hk hn
  ·rename_i o ho
   split at hk
   ·rename_i t x hg hop
    have hw:Region.wanted o (yielded ops a.tmps)=true:=by simp[Region.wanted,hg]
    simp only[wpOps,ho]
    rw[if_pos hw]
    obtain⟨y,w',ρ',st',d,h1,h2,h3,h4⟩:=Jb h (h.ev x) hk
    exact .inl (UH (by unfold execOp;rw[hop];simp only[Sem.run_bind,h1,Result.andThen_ok];rfl) (CR hΓ hG rest (h2.put o.dst h3) h4 hn))
   ·rename_i x hg hop
    have hw:Region.wanted o (yielded ops a.tmps)=true:=by simp[Region.wanted,hg]
    simp only[wpOps,ho]
    rw[if_pos hw]
    obtain⟨y,st',d,h1,h2,h3,h4⟩:=Jc h (h.ev x) hk
    exact .inl (UH (by unfold execOp;rw[hop];simp only[Sem.run_bind,h1,Result.andThen_ok];rfl) (CR hΓ hG rest (h2.put o.dst h3) h4 hn))
   ·exact oI (tail:=rest) hΓ hG [i] h hk fun ρ' st' a' w' hR hk'=>CR hΓ hG rest hR hk' hn
theorem Sk{E:Type}{ops:Array Oper}{Q:Exit→Act→World→Prop}{G:E→Prop}(hΓ:GOK P Γ)(hG:Good P w0 F){ρ:gU}{st:St}{a:Act}{w:World}{k:St→Option E}(h:Rel w0 F Xc ρ0 ρ st a w)(hne:Jd P Γ ops st k≠[])
 (hall:∀X∈Jd P Γ ops st k,∃res,X=some res∧G res) (hn:∀ρ' st' a' w' res,Rel w0 F Xc ρ0 ρ' st' a' w'→k st'=some res→G res→Q .normal a' w'):wpOps P ops Q (List.range ops.size) a w:=by
 unfold Jd at hne hall
 split at hne
 case h_2=>exact(hne rfl).elim
 rename_i o ho
 simp only[ho] at hall
 split at hne
 case h_2=>exact(hne rfl).elim
 rename_i x hg hop
 simp only[hg,hop] at hall
 have hpos:0<ops.size:=(Array.getElem?_eq_some_iff.1 ho).1
 have hr:List.range ops.size=0::(List.range ops.size).tail:=by
  obtain⟨q,hq⟩:∃q,ops.size=q+1:=⟨ops.size-1,by omega⟩
  rw[hq,List.range_succ_eq_map]
  rfl
 rw[hr]
 have hw:Region.wanted o (yielded ops a.tmps)=true:=by simp[Region.wanted,hg]
 simp only[wpOps,ho]
 rw[if_pos hw]
 refine .inl (Mk hop h hne fun ρ' st' a' w' hR hm=>?_)
 obtain⟨res,h1,h2⟩:=hall _ hm
 exact UI hΓ hG _ hR h1 fun ρ2 st2 a2 w2 hR2 hk2=>hn ρ2 st2 a2 w2 res hR2 hk2 h2
theorem jY{np n m:Nat}{amb:Bool}(hΓ:GOK P Γ)(hD:UK P Γ dok)(hG:Good P w0 F):∀(c:ACode) (_:ρ0.ex=[]∨c.flat=true) (R:Type) (r:R) {ρ:gU} {st:St} {a:Act} {w:World} {k:AEx→St→Option R} {Q:Exit→Act→World→Prop},Rel w0 F Xc ρ0 ρ st a w →
 fV P Γ dok np n m amb c R st k=some r→(∀ρ' st' a' w' e,Rel w0 F Xc ρ0 ρ' st' a' w'→k e st'=some r→Q e.ex a' w')→c.code.wp P Q a w
 | .skip,hx,R,r,ρ,st,a,w,k,Q,h,hk,hn=>wp_skip (hn ρ st a w .normal h hk)
 | .ret,hx,R,r,ρ,st,a,w,k,Q,h,hk,hn=>wp_ret (hn ρ st a w .ret h hk)
 | .exit id,hx,R,r,ρ,st,a,w,k,Q,h,hk,hn=>wp_exit (hn ρ st a w (.exit id) h hk)
 | .region id ops draw,hx,R,r,ρ,st,a,w,k,Q,h,hk,hn=>by
  simp only[fV] at hk
  split at hk
  ·rename_i hd
   cases draw with
   | false=>exact wp_region (UI hΓ hG _ h hk fun ρ' st' a' w' hR hk'=>hn ρ' st' a' w' .normal hR hk')
   | true=>
    have hd':dok ops=true:=by rcases hd with hd | hd;cases hd;exact hd
    refine wp_region_draw fun t=>?_
    exact hD ops hd' w0 F Xc ρ0 ρ st a _ (fun st=>k .normal st) r Q t hG (h.world (Stp.drew _ w)) hk fun ρ' st' a' w' hR hk'=>hn ρ' st' a' w' .normal hR hk'
  ·cases hk
 | .seq x y,hx,R,r,ρ,st,a,w,k,Q,h,hk,hn=>by
  simp only[fV] at hk
  refine wp_seq (jY hΓ hD hG x (hx.imp (fun h=>h) fun hf=>(Bool.and_eq_true_iff.1 (show (x.flat&&y.flat)=true from hf)).1) R r h hk fun ρ' st' a' w' e hR hk'=>?_)
  cases e with
  | normal=>exact jY hΓ hD hG y (hx.imp (fun h=>h) fun hf=>(Bool.and_eq_true_iff.1 (show (x.flat&&y.flat)=true from hf)).2) R r hR hk' hn
  | exit id=>exact hn ρ' st' a' w' (.exit id) hR hk'
  | ret=>exact hn ρ' st' a' w' .ret hR hk'
 | .cond c x y,hx,R,r,ρ,st,a,w,k,Q,h,hk,hn=>by
  simp only[fV] at hk
  unfold Mm at hk
  split at hk
  ·rename_i hd
   obtain⟨k1,k2⟩:=N4 hk
   have hc:=h.ev c
   rw[hd] at hc
   rcases hc with hc | ⟨⟨b,hb⟩,_⟩
   ·cases hc
   ·cases b with
    | true=>exact wp_cond_true hb (jY hΓ hD hG x (hx.imp (fun h=>h) fun hf=>(Bool.and_eq_true_iff.1 (show (x.flat&&y.flat)=true from hf)).1) R r h k1 hn)
    | false=>exact wp_cond_false hb (jY hΓ hD hG y (hx.imp (fun h=>h) fun hf=>(Bool.and_eq_true_iff.1 (show (x.flat&&y.flat)=true from hf)).2) R r h k2 hn)
  obtain⟨b,hb,hk1⟩:=yQ (h.ev c) hk
  cases b with
  | true=>exact wp_cond_true hb (jY hΓ hD hG x (hx.imp (fun h=>h) fun hf=>(Bool.and_eq_true_iff.1 (show (x.flat&&y.flat)=true from hf)).1) R r h hk1 hn)
  | false=>exact wp_cond_false hb (jY hΓ hD hG y (hx.imp (fun h=>h) fun hf=>(Bool.and_eq_true_iff.1 (show (x.flat&&y.flat)=true from hf)).2) R r h hk1 hn)
 | .block id x,hx,R,r,ρ,st,a,w,k,Q,h,hk,hn=>by
  simp only[fV] at hk
  refine wp_block (jY hΓ hD hG x (hx.imp (fun h=>h) fun hf=>(show x.flat=true from hf)) R r h hk fun ρ' st' a' w' e hR hk'=>?_)
  cases e with
  | normal=>exact hn ρ' st' a' w' .normal hR hk'
  | exit j=>
   simp only at hk'
   show if j=id then Q .normal a' w' else Q (.exit j) a' w'
   split
   ·rename_i hj;rw[if_pos hj] at hk';exact hn ρ' st' a' w' .normal hR hk'
   ·rename_i hj;rw[if_neg hj] at hk';exact hn ρ' st' a' w' (.exit j) hR hk'
  | ret=>exact hn ρ' st' a' w' .ret hR hk'
 | .scope x,hx,R,r,ρ,st,a,w,k,Q,h,hk,hn=>by
  simp only[fV] at hk
  exact wp_scope_straight (jY hΓ hD hG x (hx.imp (fun h=>h) fun hf=>(show x.flat=true from hf)) R r h hk fun ρ' st' a' w' e hR hk'=>by
   have:=hn ρ' st' a' w' e hR hk'
   cases e <;> exact this)
 | .label l,hx,R,r,ρ,st,a,w,k,Q,h,hk,hn=>wp_label (hn ρ st a w .normal h hk)
 | .loop hh xs x,hx,R,r,ρ,st,a,w,k,Q,h,hk,hn=>by
  have hex:ρ0.ex=[]:=hx.resolve_right (by simp[ACode.flat])
  simp only[fV] at hk
  obtain⟨s0,hk1,ρ1,h1⟩:=CQ hex h hk
  obtain⟨q,hq,hk2⟩:=aX hk1
  obtain⟨i,hi⟩:=qJ.1 hq
  refine wp_loop_rounds i ?_
  clear hk hk1 hq h
  induction i generalizing s0 ρ1 a w with
  | zero=>simp[qW] at hi
  | succ i ih=>
   rw[rounds_succ]
   rw[qW] at hi
   cases hF:(fV P Γ dok np n m amb x (sH hh.shapes⊕EP xs) (cW hh np n m s0) fun e st'=>match e with
    | .normal=>E5 np n m hh st' fun s'=>some (.inl s')
    | e=>E6 np n m xs e st' fun q=>some (.inr q)) with
   | none=>rw[hF] at hi;cases hi
   | some res=>
    rw[hF] at hi
    refine jY hΓ hD hG x (.inl hex) _ res h1 hF fun ρ' st' a' w' e hR hk'=>?_
    cases e with
    | normal=>
     obtain⟨s',hs',ρ2,h2⟩:=CQ hex hR hk'
     cases hs'
     exact ih (a:=a') (w:=w') (s0:=s') (ρ1:=ρ2) h2 hi
    | exit id=>
     obtain⟨q',hq',ρ2,st2,h2,hu⟩:=zQ hex xs (.exit id) st' _ hR hk'
     cases hq'
     simp only[Option.some.injEq] at hi
     subst hi
     rw[hu] at hk2
     exact hn ρ2 st2 a' w' (.exit id) h2 hk2
    | ret=>
     obtain⟨q',hq',ρ2,st2,h2,hu⟩:=zQ hex xs .ret st' _ hR hk'
     cases hq'
     simp only[Option.some.injEq] at hi
     subst hi
     rw[hu] at hk2
     exact hn ρ2 st2 a' w' .ret h2 hk2
 | .join xs x,hx,R,r,ρ,st,a,w,k,Q,h,hk,hn=>by
  have hex:ρ0.ex=[]:=hx.resolve_right (by simp[ACode.flat])
  simp only[fV] at hk
  obtain⟨q,hq,hk2⟩:=aX hk
  refine jY hΓ hD hG x (.inl hex) _ q h hq fun ρ' st' a' w' e hR hk'=>?_
  obtain⟨q',hq',ρ2,st2,h2,hu⟩:=zQ hex xs e st' _ hR hk'
  cases hq'
  rw[hu] at hk2
  exact hn ρ2 st2 a' w' e h2 hk2
 | .unr i x,hx,R,r,ρ,st,a,w,k,Q,h,hk,hn=>by
  simp only[fV] at hk
  refine wp_loop_rounds i ?_
  induction i generalizing st ρ a w with
  | zero=>simp[Ml] at hk
  | succ i ih=>
   rw[rounds_succ]
   simp only[Ml] at hk
   refine jY hΓ hD hG x (hx.imp (fun h=>h) fun hf=>(show x.flat=true from hf)) R r h hk fun ρ' st' a' w' e hR hk'=>?_
   cases e with
   | normal=>exact ih (hx.imp (fun h=>h) fun hf=>(show x.flat=true from hf)) ρ' st' a' w' hR hk'
   | exit id=>exact hn ρ' st' a' w' (.exit id) hR hk'
   | ret=>exact hn ρ' st' a' w' .ret hR hk'
 | .regR id ops,hx,R,r,ρ,st,a,w,k,Q,h,hk,hn=>by
  simp only[fV] at hk
  exact wp_region (CR hΓ hG _ h hk fun ρ' st' a' w' hR hk'=>hn ρ' st' a' w' .normal hR hk')
 | .rng id ops hh xs x,hx,R,r,ρ,st,a,w,k,Q,h,hk,hn=>by
  have hex:ρ0.ex=[]:=hx.resolve_right (by simp[ACode.flat])
  simp only[fV] at hk
  obtain⟨s0,hk1,ρ1,h1⟩:=CQ hex h hk
  generalize hFF:(fun s:sH hh.shapes=>Jd P Γ ops (cW hh np n m s) fun st=>fV P Γ dok np n m amb x (sH hh.shapes⊕EP xs) st fun e st'=>match e with
   | .normal=>E5 np n m hh st' fun s'=>some (.inl s')
   | e=>E6 np n m xs e st' fun q=>some (.inr q))=FF at hk1
  obtain⟨i,hi⟩:=Ja hk1
  refine wp_loop_rounds i ?_
  clear hk hk1 h
  induction i generalizing s0 ρ1 a w with
  | zero=>simp[N5] at hi
  | succ i ih=>
   rw[rounds_succ]
   rw[N5] at hi
   have hs0:FF s0=Jd P Γ ops (cW hh np n m s0) fun st=>fV P Γ dok np n m amb x (sH hh.shapes⊕EP xs) st fun e st'=>match e with
    | .normal=>E5 np n m hh st' fun s'=>some (.inl s')
    | e=>E6 np n m xs e st' fun q=>some (.inr q):=by rw[←hFF]
   have hne:FF s0≠[]:=fun e=>by
    rw[e] at hi
    simp[GA] at hi
   refine wp_seq (wp_region (Sk (G:=fun res:sH hh.shapes⊕EP xs=>(match res with
    | .inl s'=>N5 FF (fun q=>AO np n m xs q k) i s'
    | .inr q=>AO np n m xs q k)=some r) hΓ hG h1 (hs0▸hne) (fun X hX=>?_) fun ρ' st' a' w' res hR hk' hres=>?_))
   ·have:=KT hi _ (List.mem_map.2 ⟨X,hs0▸hX,rfl⟩)
    match X,this with
    | some (.inl s'),this=>exact⟨_,rfl,this⟩
    | some (.inr q),this=>exact⟨_,rfl,this⟩
    | none,this=>cases this
   ·refine jY hΓ hD hG x (.inl hex) _ res hR hk' fun ρ2 st2 a2 w2 e hR2 hk2=>?_
    cases e with
    | normal=>
     obtain⟨s',hs',ρ3,h3⟩:=CQ hex hR2 hk2
     cases hs'
     exact ih (a:=a2) (w:=w2) (s0:=s') (ρ1:=ρ3) h3 hres
    | exit id=>
     obtain⟨q',hq',ρ3,st3,h3,hu⟩:=zQ hex xs (.exit id) st2 _ hR2 hk2
     cases hq'
     simp only at hres
     rw[hu] at hres
     exact hn ρ3 st3 a2 w2 (.exit id) h3 hres
    | ret=>
     obtain⟨q',hq',ρ3,st3,h3,hu⟩:=zQ hex xs .ret st2 _ hR2 hk2
     cases hq'
     simp only at hres
     rw[hu] at hres
     exact hn ρ3 st3 a2 w2 .ret h3 hres
end
theorem sK{n:Int}(h1:-9223372036854775808≤n)(h2:n≤9223372036854775807):wr .i64 n=n:=by unfold wr;exact IntWalk.i64_in n ⟨h1,h2⟩
theorem aDE{n:Int}(h1:0≤n)(h2:n≤255):wr .u8 n=n:=by unfold wr;exact IntWalk.u8_in n ⟨h1,h2⟩
@[simp] theorem aJ(a b:Int):aP a b=a+b:=by unfold aP;rfl
@[simp] theorem cB(a b:Int):subI a b=a-b:=by unfold subI;rfl
@[simp] theorem fG(a b:Int):bN a b=a*b:=by unfold bN;rfl
@[simp] theorem UL(a b:Int):dP a b=a.tdiv b:=by unfold dP;rfl
@[simp] theorem pO(a b:Int):pZ a b=a.tmod b:=by unfold pZ;rfl
@[simp] theorem aL(a b:Int):eqI a b=decide (a=b):=by unfold eqI;rfl
@[simp] theorem aF(a b:Int):ltI a b=decide (a<b):=by unfold ltI;rfl
@[simp] theorem kH(a b:Int):vC a b=decide (a≤b):=by unfold vC;rfl
@[simp] theorem AP(a b:Bool):MZ a b=(a==b):=by unfold MZ;rfl
theorem N7{b:Int}(h:b≠0):nz b=some b:=by unfold nz;rw[if_neg h]
@[simp] theorem bC{α R:Type}(a:α)(k:α→Option R):ob (some a) k=k a:=rfl
@[simp] theorem aN{α β R:Type}(x:α)(f:α→Option R)(g:β→Option R):dE (.inl x:α⊕β) f g=f x:=rfl
@[simp] theorem kQ{α β R:Type}(x:β)(f:α→Option R)(g:β→Option R):dE (.inr x:α⊕β) f g=g x:=rfl
@[simp] theorem aBM(k:IntKind)(n:Int):T.int? k (.v (.int k n))=some n:=by simp[T.int?]
@[simp] theorem Mn(x:Value):T.cell (.v x) 0=.v x:=rfl
@[simp] theorem tA(k:Nat)(l:List T):T.sl? k (.sl k l)=some l:=by
 unfold T.sl?
 split
 ·rename_i h;cases h
 ·rename_i h;cases h;simp
 ·rename_i h;exact(h _ _ rfl).elim
@[simp] theorem Mo(x y:Value):T.upd 1 (.v x) 0 [.v y]=.v y:=by unfold T.upd;rfl
theorem Xv{k:Nat}{x:T}{l:List T}(h:k<1000000000)(hx:T.sl? k x=some l):T.rw? k x=some l:=(if_pos h).trans hx
@[simp] theorem aK{α:Type}(l:List α):lenL l=(l.length:Int):=by unfold lenL;rfl
theorem bY{α:Type}(l:List α)(i:Nat):bG l (i:Int)=l[i]?:=by unfold bG;simp
theorem uB{α:Type}(l:List α){i:Int}(h:0≤i):bG l i=l[i.toNat]?:=by unfold bG;rw[if_pos h]
theorem mD{n:Int}{i:Nat}(h:(i:Int)<n):gH n (i:Int)=some i:=by unfold gH;rw[if_pos ⟨by omega,h⟩];simp
theorem Mp{n i:Int}(h0:0≤i)(h:i<n):gH n i=some i.toNat:=by unfold gH;rw[if_pos ⟨h0,h⟩]
@[simp] theorem rH{α:Type}(l:List α)(i:Nat):lM l i=l[i]?:=by unfold lM;rfl
theorem pP{α:Type}{l m:List α}{b:Nat}(h:(l.length+m.length)*b≤140737488355328)(hb:0<b):room l m b=some (l++m):=by
 unfold room
 have:l.length+m.length≤(l.length+m.length)*b:=Nat.le_mul_of_pos_right _ hb
 rw[if_pos ⟨by unfold maxLen;omega,h⟩]
theorem N8{α:Type}{l:List α}{lo hi:Nat}(h1:lo≤hi)(h2:hi≤l.length):cutL l (lo:Int) (hi:Int)=some ((l.take hi).drop lo):=by
 unfold cutL;rw[if_pos ⟨by omega,by omega,by omega,by omega⟩];simp
theorem XW{α:Type}{l:List α}{lo hi:Int}(h0:0≤lo)(h1:lo≤hi)(h2:hi≤l.length):cutL l lo hi=some ((l.take hi.toNat).drop lo.toNat):=by
 unfold cutL;rw[if_pos ⟨by omega,by omega,by omega,by omega⟩]
@[simp] theorem M3{α:Type}(n:Nat)(x:α):repL n x=List.replicate n x:=by unfold repL;rfl
theorem N9{l c:Int}{b:Nat}(h0:0≤l)(h1:l≤c)(h2:(b:Int)*c≤281474976710656)(hb:0<b):mkLen l c b=some (l.toNat,c.toNat):=by
 unfold mkLen
 have:c≤(b:Int)*c:=by
  have h:(1:Int)*c≤(b:Int)*c:=Int.mul_le_mul_of_nonneg_right (by omega) (by omega)
  omega
 rw[if_pos ⟨h0,h1,h2,by unfold maxLen;omega⟩]
abbrev Bs:=List UInt8
def bs(l:Bs):ByteArray:=⟨l.toArray⟩
section
variable {S E:Type} {F:S→Option (S⊕E)}
theorem dU{s s':S}(h:F s=some (.inl s')):aI F s=aI F s':=by rw[XV,h]
theorem aO{s:S}{e:E}(h:F s=some (.inr e)):aI F s=some e:=by rw[XV,h]
theorem eQ(n:Nat)(st:Nat→S)(h:∀k,k<n→F (st k)=some (.inl (st (k+1)))):aI F (st 0)=aI F (st n):=by
 induction n with
 | zero=>rfl
 | succ n ih=>rw[ih fun k hk=>h k (by omega),dU (h n (by omega))]
end
structure Sig where
 na:Nat
 np:Nat
 hin:Hint
 nres:Nat
 kept:List Nat
 nnew:Nat
 hout:Hint
 nob:Nat
def Sig.no(sg:Sig):Nat:=sg.nres+sg.kept.length
def OA:List Sh→List (Option (TypeId×Nat))
 | []=>[]
 | .row e n _::l=>some (e,n)::OA l
 | _::l=>none::OA l
section
variable {R:Type} (P:Program) (Γ:FuncId→Option Callee) (dok:Array Oper→Bool)
def G9(st:St):List ResultVar→(List S1→Option R)→Option R
 | [],k=>k []
 | .tmp t::l,k=>match st.env.getD t D.top with
  | .s s=>G9 st l fun rs=>k (s::rs)
  | _=>none
 | .cell x t::l,k=>zK P st t (ev st (.tmp x)) fun d=>match d with
  | .s s=>G9 st l fun rs=>k (s::rs)
  | _=>none
def Mq(nt:Nat)(sg:Sig)(t:sH sg.hin.shapes):St:=cW sg.hin sg.np nt (sg.np+sg.nob) t
def Er(objs:List O)(k:Nat):D:=match objs[k]? with
 | some (.row _ _ _ _)=>.s (.c (.row k))
 | _=>D.top
def OB(sg:Sig)(rs:List S1)(objs:List O):St:={ np:=sg.np,env:=rs.map .s++sg.kept.map (Er objs),objs:=objs }
def Sl(rv:List ResultVar)(sg:Sig)(st:St):Option (sH sg.hout.shapes):=if st.np=sg.np then G9 P st rv fun rs=>if rs.length=sg.nres∧sg.np+sg.nnew≤st.objs.length then E4 sg.hout (Iz sg.hout (OB sg rs st.objs)) some else none else none
noncomputable def Vx(code:ACode)(rv:List ResultVar)(nt:Nat)(sg:Sig)(t:sH sg.hin.shapes):Option (sH sg.hout.shapes):=
 fV P Γ dok sg.np nt (sg.np+sg.nob) true code (sH sg.hout.shapes) (Mq nt sg t) fun e st=>match e with
  | .exit _=>none
  | _=>Sl P rv sg st
end
def XX(sg:Sig)(args:List S1)(po:List O):St:={ np:=sg.np,env:=args.map .s,objs:=po }
def aC(sg:Sig)(U:sH sg.hin.shapes→Option (sH sg.hout.shapes)):Callee where
 rows:=OA sg.hin.shapes
 call args po k:=if args.length=sg.na∧po.length=sg.np then E4 sg.hin (XX sg args po) fun t=>ob (U t) fun q=>
  match Im ((cW sg.hout sg.np sg.no (sg.np+sg.nnew) q).env.take sg.nres) with
  | some rs=>k rs (cW sg.hout sg.np sg.no (sg.np+sg.nnew) q).objs
  | none=>none
  else none
def Sig.ok(sg:Sig)(nt:Nat):Bool:=
 decide (sg.na≤nt)&&(rF sg.hin.items).all (fun i=>decide (i<sg.na))&&(dJ sg.hout.items++bV sg.hout.shapes).all (fun k=>decide (k<sg.np+sg.nnew))&&sg.kept.all (fun k=>decide (k<sg.np))
section
variable {R:Type} {P:Program} {w0 w:World} {F Xc X X'':Nat→Prop} {ρ0:Base} {ρ ρ'':gU} {st:St} {a:Act} {r:R}
theorem Sn(h:Rel w0 F Xc ρ0 ρ st a w)(t:Nat):RdD w (XB st.objs ρ Xc) ρ (st.env.getD t D.top) (a.tmps.getD t undef):=by
 rw[List.getD_eq_getElem?_getD]
 cases hd:st.env[t]? with
 | none=>exact .inl rfl
 | some d=>
  have hlt:t<a.tmps.size:=by rw[h.len];exact(List.getElem?_eq_some_iff.1 hd).1
  have e1:a.tmps[t]?=some a.tmps[t]:=Array.getElem?_eq_getElem hlt
  rw[Array.getD_eq_getD_getElem?,e1]
  exact h.env t d _ hd e1
theorem Az{t:TypeId}{v y:Value}{w':World}(h:(Instr.loadAt t v).run P w=.ok y w'):((asAddr v).run P w).andThen (fun a w₁=>(loadVar t a).run P w₁)=.ok y w':=by
 unfold Instr.loadAt at h
 rw[Sem.run_bind] at h
 cases v with
 | pointer p=>
  cases p with
  | none=>have h':Result.halt _ _=Result.ok y w':=h;cases h'
  | some ad=>simpa[Instr.sureAddr,asAddr] using h
 | _=>have h':Result.halt _ _=Result.ok y w':=h;cases h'
theorem M4(h:Rel w0 F Xc ρ0 ρ st a w):∀(l:List ResultVar) (k:List S1→Option R),G9 P st l k=some r →
 ∃rs vs,k rs=some r∧RdSs w (XB st.objs ρ Xc) ρ rs vs∧rs.length=l.length ∧
  (l.mapM (m:=Sem) fun
   | .tmp t=>pure (a.tmps.getD t undef)
   | .cell x t=>do loadVar t (←asAddr (a.tmps.getD x undef))).run P w=.ok vs w
 | [],k,hk=>⟨[],[],hk,⟨rfl,fun i s y h1 _=>by simp at h1⟩,rfl,rfl⟩
 | .tmp t::l,k,hk=>by
  simp only[G9] at hk
  split at hk
  ·rename_i s hs
   have hd:=Sn h t
   rw[hs] at hd
   obtain⟨rs,vs,q1,q2,q3,q4⟩:=M4 h l _ hk
   refine⟨s::rs,a.tmps.getD t undef::vs,q1,.cons hd q2,by simp[q3],?_⟩
   rw[List.mapM_cons,Sem.run_bind]
   simp only[Sem.run_pure,Result.andThen_ok]
   rw[Sem.run_bind,q4]
   rfl
  ·cases hk
 | .cell x t::l,k,hk=>by
  simp only[G9] at hk
  have hx:=h.ev (.tmp x)
  obtain⟨d,y,e1,e2,e3⟩:=W6 h hx hk
  split at e3
  ·rename_i s
   obtain⟨rs,vs,q1,q2,q3,q4⟩:=M4 h l _ e3
   refine⟨s::rs,y::vs,q1,.cons e2 q2,by simp[q3],?_⟩
   have e4:((asAddr (a.tmps.getD x undef)).run P w).andThen (fun a w₁=>(loadVar t a).run P w₁)=.ok y w:=Az e1
   rw[List.mapM_cons,Sem.run_bind]
   simp only[Sem.run_bind,e4,Result.andThen_ok,q4]
   rfl
  ·cases e3
theorem Vy{rs:List S1}{vs:List Value}(h:RdSs w X ρ rs vs):RdRes w X ρ rs (if h:vs.toArray.size=1 then vs.toArray[0] else .tuple vs.toArray):=by
 match rs,vs,h with
 | [],[],h=>exact⟨#[],rfl,h⟩
 | [s],[v],h=>exact h.2 0 s v rfl rfl
 | s::s'::l,v::v'::vl,h=>exact⟨(v::v'::vl).toArray,by simp,h⟩
 | [],_::_,h=>have:=h.1;simp at this
 | _::_,[],h=>have:=h.1;simp at this
 | [_],_::_::_,h=>have:=h.1;simp at this
 | _::_::_,[_],h=>have:=h.1;simp at this
end
section
variable {R:Type} {P:Program} {w0 w:World} {F Xc X X'':Nat→Prop} {ρ0:Base} {ρ ρ'':gU} {st:St} {a:Act} {r:R}
theorem Rel.bare{objs:List O}{env:List D}{vals:List Value}{np:Nat}(hlen:env.length=vals.length)(henv:∀(i:Nat) d y,env[i]?=some d→vals[i]?=some y→RdD w (XB objs ρ Xc) ρ d y)
 (hok:∀(k:Nat) o,objs[k]?=some o→okK w (XB objs ρ Xc) ρ k o) (hsep:Sep objs ρ) (hown:∀b,sJ objs ρ b→w0.heap.size≤b∨F b) (hpar:∀k,k<np→ρ k=ρ0.rho k) (hfr:Stp F w0 w)
 (hxl:∀b,Xc b→b<w0.heap.size) (hxc:∀b,sJ objs ρ b→¬Xc b) (hext:∀p∈ρ0.ex,RdD w (XB objs ρ Xc) ρ p.1 p.2):Rel w0 F Xc ρ0 ρ { np:=np,env:=env,objs:=objs } { tmps:=vals.toArray,defers:=[] } w:=
 ⟨by simp[hlen],fun i d y h1 h2=>henv i d y h1 (by simpa using h2),hok,hsep,hown,hpar,rfl,hfr,hxl,hxc,hext⟩
theorem Rel.widen{h:Hint}{np n n' m m':Nat}{t:sH h.shapes}{vals:List Value}(hR:Rel w0 F Xc ρ0 ρ (cW h np n m t) { tmps:=vals.toArray,defers:=[] } w)(hn:n≤n')(hm:m≤m')(hnp:np≤m)(hv:vals.length=n)
 (hs:∀i∈rF h.items,i<n) (hk:∀k∈dJ h.items++bV h.shapes,k<m) (hno:∀k,m≤k→ρ k=none):
 Rel w0 F Xc ρ0 ρ (cW h np n' m' t) { tmps:=vals.toArray++Array.replicate (n'-vals.toArray.size) undef,defers:=[] } w:=by
 obtain⟨e1,e2⟩:=KS (h:=h) (t:=t) hn hm hnp
 obtain⟨l1,l2,l3⟩:=AN (h:=h) (n:=n) (t:=t) hnp
 obtain⟨L1,L2,L3⟩:=AN (h:=h) (n:=n') (t:=t) (show np≤m' by omega)
 have hout:∀k,m≤k→(cW h np n' m' t).objs[k]?=some .fresh∨(cW h np n' m' t).objs[k]?=none:=fun k hk'=>by
  have h1:k∉dJ h.items:=fun hb=>by have:=hk k (List.mem_append.2 (.inl hb));omega
  have h2:k∉bV h.shapes:=fun hb=>by have:=hk k (List.mem_append.2 (.inr hb));omega
  have:(cW h np n' m' t).objs[k]?=(iI np n' m').objs[k]?:=by
   show (lV _ _)[k]?=_
   rw[pG _ _ k (by rw[eX];exact h2),oJ h.items _ _ k h1]
  rw[this,wL (by omega),if_neg (by omega)]
  by_cases hkm:k<m'
  ·rw[if_pos hkm];exact .inl rfl
  ·rw[if_neg hkm];exact .inr rfl
 have hHas:∀k b,Has (cW h np n' m' t).objs ρ k b↔Has (cW h np n m t).objs ρ k b:=fun k b=>by
  by_cases hkm:k<m
  ·unfold Has;rw[e2 k hkm]
  ·constructor
   ·rintro ⟨o,v,h1,h2,h3,h4⟩
    rw[hno k (by omega)] at h3;cases h3
   ·rintro ⟨o,v,h1,h2,h3,h4⟩
    rw[hno k (by omega)] at h3;cases h3
 have hmut:∀b,sJ (cW h np n' m' t).objs ρ b↔sJ (cW h np n m t).objs ρ b:=fun b=>⟨fun⟨k,hh⟩=>⟨k,(hHas k b).1 hh⟩,fun⟨k,hh⟩=>⟨k,(hHas k b).2 hh⟩⟩
 have hXe:XB (cW h np n' m' t).objs ρ Xc=XB (cW h np n m t).objs ρ Xc:=by funext b;unfold XB;rw[propext (hmut b)]
 refine⟨by simp[L2];omega,fun i d y h1 h2=>?_,fun k o ho=>?_,fun k k' b h1 h2=>hR.sep k k' b ((hHas k b).1 h1) ((hHas k' b).1 h2),fun b hb=>hR.own b ((hmut b).1 hb),fun k hk=>?_,rfl,hR.frame,hR.xcl,fun b hb=>hR.xc b ((hmut b).1 hb),fun p hp=>by rw[hXe];exact hR.ext p hp⟩
 ·rw[hXe]
  by_cases hi:i<n
  ·rw[←e1 i hi] at h1
   refine hR.env i d y h1 ?_
   rw[Array.getElem?_append_left (by simp;omega)] at h2
   exact h2
  ·have h3:(cW h np n' m' t).env[i]?=(iI np n' m').env[i]?:=uA h.items _ _ i (fun hm=>by have:=hs i hm;omega)
   rw[h3] at h1
   simp only[iI,List.getElem?_replicate] at h1
   split at h1
   ·cases h1;exact .top_ y
   ·cases h1
 ·rw[hXe]
  by_cases hkm:k<m
  ·exact hR.objs k o (by rw[e2 k hkm];exact ho)
  ·rcases hout k (by omega) with hh | hh
   ·rw[hh] at ho;cases ho;exact hno k (by omega)
   ·rw[hh] at ho;cases ho
 ·rw[L1] at hk
  exact hR.par k (by rw[l1];exact hk)
theorem UM{f:FuncId}{fn:Func}{code:Code}{rv:List ResultVar}{nt:Nat}{sg:Sig}{U:sH sg.hin.shapes→Option (sH sg.hout.shapes)}
 (hf:P.funcs[f]?=some fn) (hb:fn.body=some code) (hnt:fn.ntmps=nt) (hrv:fn.results.toList=rv) (hs:sg.ok nt=true)
 (hU:∀t q,U t=some q→∀{w:World} {F Xc:Nat→Prop} {ρ0:Base} {ρ:gU} {a:Act} {Q:Exit→Act→World→Prop},ρ0.ex=[]→Good P w F→Rel w F Xc ρ0 ρ (Mq nt sg t) a w→(∀c a d v w,Q (.panic c) (a.put d v) w→Q (.panic c) a w) →
  (∀ρ' st' a' w' e,Rel w F Xc ρ0 ρ' st' a' w'→(match e with | .exit _=>none | _=>Sl P rv sg st')=some q→Q (AEx.ex e) a' w')→code.wp P Q a w):(aC sg U).OK P f:=by
 refine⟨?_,fun I h=>(by cases h),fun I h=>(by cases h)⟩
 intro R args po k r hk
 simp only[aC] at hk
 split at hk
 case isFalse=>cases hk
 rename_i hlens
 obtain⟨hna,hnp⟩:=hlens
 unfold Sig.ok at hs
 simp only[Bool.and_eq_true,decide_eq_true_eq,List.all_eq_true] at hs
 obtain⟨⟨⟨hs1,hs2⟩,hs3⟩,hs4⟩:=hs
 rw[EI] at hk
 cases hpk:E4 sg.hin (XX sg args po) some with
 | none=>rw[hpk] at hk;cases hk
 | some t=>
 rw[hpk] at hk
 simp only[Option.bind_some] at hk
 obtain⟨q,hq,hk1⟩:=aX hk
 split at hk1
 case h_2=>cases hk1
 rename_i rs hrs
 refine⟨rs,_,hk1,?_⟩
 have hs1s:=F2 hrs
 intro w Xc ρ vals hok hsep hxl hxc hgood hargs
 have hvl:vals.length=sg.na:=by rw[←hargs.1] at hna;rw[←hna,hargs.1]
 have hR0:Rel w (sJ po ρ) Xc ⟨ρ,[]⟩ ρ (XX sg args po) { tmps:=vals.toArray,defers:=[] } w:=
  Rel.bare (by rw[List.length_map];exact hargs.1.symm) (fun i d y h1 h2=>by
   rw[List.getElem?_map] at h1
   cases ha:args[i]? with
   | none=>simp[ha] at h1
   | some s=>
    simp only[ha,Option.map_some,Option.some.injEq] at h1
    subst h1
    exact hargs.2 i s y ha h2) hok hsep (fun b hb=>.inr hb) (fun _ _=>rfl) (.refl _ _) hxl hxc (fun p hp=>by simp at hp)
 obtain⟨t',ht',hkk,ρ1,hno,hR1⟩:=JG rfl hR0 hpk
 cases ht'
 have hRel:=Rel.widen (n':=nt) (m':=sg.np+sg.nob) hR1 (by simp only[XX,List.length_map];omega) (by simp only[XX];omega) (by simp only[XX];omega) (by simp only[XX,List.length_map];omega)
  (fun i hi=>by have:=hs2 i hi;simp only[XX,List.length_map];omega) hkk hno
 subst hnt
 refine calls_of_wp hf hb (hU t q hq rfl hgood hRel (fun c a d v w h=>⟨by cases d <;> exact h.1,h.2⟩) fun ρ' st' a' w' e hR hk3=>?_)
 have key:Sl P rv sg st'=some q→a'.defers=[]∧∃v,(results fn a'.tmps).run P w'=.ok v w'∧aBE w Xc ρ po rs (cW sg.hout sg.np sg.no (sg.np+sg.nnew) q).objs (.returned v) w':=by
  intro hk4
  refine⟨hR.defers,?_⟩
  unfold Sl at hk4
  split at hk4
  case isFalse=>cases hk4
  rename_i hnp'
  obtain⟨rs1,vs,p1,p2,p3,p4⟩:=M4 hR rv _ hk4
  split at p1
  case isFalse=>cases p1
  rename_i hrl0
  obtain⟨hrl,hmM⟩:=hrl0
  have hkv:∀k:Nat,∃v,RdD w' (XB st'.objs ρ' Xc) ρ' (Er st'.objs k) v:=fun k=>by
   unfold Er
   split
   ·rename_i fz e n l ho
    obtain⟨v,e1,e2⟩:=hR.objs k _ ho
    obtain⟨_,_,⟨xs,hown,_⟩,_⟩:=e2
    exact⟨v,.one (c:=.row k) e1 hown.one⟩
   ·exact⟨undef,.top_ _⟩
  have hkvs:∃kv:List Value,kv.length=sg.kept.length∧∀(i:Nat) d y,(sg.kept.map (Er st'.objs))[i]?=some d→kv[i]?=some y→RdD w' (XB st'.objs ρ' Xc) ρ' d y:=by
   refine⟨sg.kept.map fun k=>Classical.choose (hkv k),by simp,fun i d y h1 h2=>?_⟩
   rw[List.getElem?_map] at h1 h2
   cases hk:sg.kept[i]? with
   | none=>simp[hk] at h1
   | some k=>
    simp only[hk,Option.map_some,Option.some.injEq] at h1 h2
    subst h1;subst h2
    exact Classical.choose_spec (hkv k)
  obtain⟨kv,hkl,hkd⟩:=hkvs
  have hR2:Rel w (sJ po ρ) Xc ⟨ρ,[]⟩ ρ' (OB sg rs1 st'.objs) { tmps:=(vs++kv).toArray,defers:=[] } w':=
   Rel.bare (by simp[p2.1,hkl]) (fun i d y h1 h2=>by
    rw[List.getElem?_append] at h1 h2
    rw[List.length_map] at h1
    rw[p2.1] at h2
    split at h1
    ·rename_i hi
     rw[if_pos hi] at h2
     rw[List.getElem?_map] at h1
     cases ha:rs1[i]? with
     | none=>simp[ha] at h1
     | some s=>
      simp only[ha,Option.map_some,Option.some.injEq] at h1
      subst h1
      exact p2.2 i s y ha h2
    ·rename_i hi
     rw[if_neg hi] at h2
     exact hkd _ d y h1 h2) hR.objs hR.sep hR.own (fun k hk=>hR.par k (by rw[hnp'];exact hk)) hR.frame hR.xcl hR.xc (fun p hp=>by simp at hp)
  obtain⟨ρm,hR2m⟩:=Eo sg.hout hR2
  obtain⟨m1,m2,m3⟩:=XU sg.hout (OB sg rs1 st'.objs)
  obtain⟨q',hq',_,ρ2,_,hR3⟩:=JG rfl hR2m p1
  cases hq'
  rw[m1,m2,m3] at hR3
  have hel:(OB sg rs1 st'.objs).env.length=sg.no:=by simp[OB,Sig.no,hrl]
  rw[hel] at hR3
  have hm0:(OB sg rs1 st'.objs).objs.length=st'.objs.length:=rfl
  have hn0:(OB sg rs1 st'.objs).np=sg.np:=rfl
  rw[hm0,hn0] at hR3
  obtain⟨e1,e2⟩:=KS (h:=sg.hout) (t:=q) (np:=sg.np) (n:=sg.no) (n':=sg.no) (Nat.le_refl _) hmM (Nat.le_add_right _ _)
  obtain⟨l1,l2,l3⟩:=AN (h:=sg.hout) (t:=q) (n:=sg.no) (show sg.np≤sg.np+sg.nnew from Nat.le_add_right _ _)
  obtain⟨L1,L2,L3⟩:=AN (h:=sg.hout) (t:=q) (n:=sg.no) (show sg.np≤st'.objs.length by omega)
  have hHas:∀k b,Has (cW sg.hout sg.np sg.no (sg.np+sg.nnew) q).objs ρ2 k b→Has (cW sg.hout sg.np sg.no st'.objs.length q).objs ρ2 k b:=fun k b ⟨o,v,h1,h2,h3,h4⟩=>by
   have hk:k<sg.np+sg.nnew:=by rw[←l3];exact(List.getElem?_eq_some_iff.1 h1).1
   exact⟨o,v,by rw[←e2 k hk];exact h1,h2,h3,h4⟩
  have hX:∀b,XB (cW sg.hout sg.np sg.no (sg.np+sg.nnew) q).objs ρ2 Xc b→XB (cW sg.hout sg.np sg.no st'.objs.length q).objs ρ2 Xc b:=fun b hb=>by
   rcases hb with⟨k,hk⟩ | hb
   ·exact .inl ⟨k,hHas k b hk⟩
   ·exact .inr hb
  have hsame:Stp (fun _=>False) w' w':=.refl _ w'
  refine⟨(if h:vs.toArray.size=1 then vs.toArray[0] else .tuple vs.toArray),?_,_,ρ2,rfl,hR3.frame,fun k hk=>?_,?_,fun k o ho=>?_,fun k k' b h1 h2=>hR3.sep k k' b (hHas k b h1) (hHas k' b h2),fun k b hb=>?_,Vy ?_⟩
  ·unfold results
   rw[Sem.run_bind,Array.mapM_eq_mapM_toList,hrv,Sem.run_map]
   exact congrArg (fun z:Result (List Value)=>(z.andThen fun l w'=>(Result.ok l.toArray w':Result (Array Value))).andThen fun vs w'=>
    (pure (if h:vs.size=1 then vs[0] else .tuple vs):Sem Value).run P w') p4
  ·exact hR3.par k (by rw[L1];omega)
  ·rw[l3];omega
  ·have hk:k<sg.np+sg.nnew:=by rw[←l3];exact(List.getElem?_eq_some_iff.1 ho).1
   have:=hR3.objs k o (by rw[←e2 k hk];exact ho)
   cases o with
   | dead=>trivial
   | fresh=>exact this
   | box l=>obtain⟨v,f1,f2⟩:=this;exact⟨v,f1,f2.step hsame (fun _ h=>h.elim) (fun b hb=>.inl (hX b hb)) (.refl _) (fun _ _ h=>h)⟩
   | row fz e n l=>obtain⟨v,f1,f2⟩:=this;exact⟨v,f1,f2.step hsame (fun _ h=>h.elim) (fun b hb=>.inl (hX b hb)) (.refl _) (fun _ _ h=>h)⟩
   | mp fz e n l=>obtain⟨v,f1,f2⟩:=this;exact⟨v,f1,f2.step hsame (fun _ h=>h.elim) (fun b hb=>.inl (hX b hb)) (.refl _) (fun _ _ h=>h)⟩
   | fbox l=>obtain⟨v,f1,f2⟩:=this;exact⟨v,f1,f2.step hsame (fun _ h=>h.elim) (fun b hb=>.inl (hX b hb)) (.refl _) (fun _ _ h=>h)⟩
   | rr hole e e2 n l=>obtain⟨v,f1,f2⟩:=this;exact⟨v,f1,okO.step (o:=.rr hole e _ n l) (ρ:=ρ2) f2 hsame (fun _ h=>h.elim) (fun b hb=>.inl (hX b hb)) (.refl _) (fun _ _ h=>h)⟩
   | itr cur e n l=>obtain⟨v,f1,f2⟩:=this;exact⟨v,f1,okO.step (o:=.itr cur e n l) (ρ:=ρ2) f2 hsame (fun _ h=>h.elim) (fun b hb=>.inl (hX b hb)) (.refl _) (fun _ _ h=>h)⟩
   | fwd l=>exact this
  ·rcases hR3.own b ⟨k,hHas k b hb⟩ with h' | ⟨k',h'⟩
   ·exact .inr h'
   ·exact .inl ⟨k',h'⟩
  ·have hrsl:rs.length=sg.nres:=by
    have:=congrArg List.length hs1s
    rw[List.length_take,l2,List.length_map] at this
    simp only[Sig.no] at this
    omega
   refine⟨by rw[p2.1,hrl,hrsl],fun i s y h1 h2=>?_⟩
   have hi:i<sg.nres:=by rw[←hrsl];exact(List.getElem?_eq_some_iff.1 h1).1
   have h3:(cW sg.hout sg.np sg.no (sg.np+sg.nnew) q).env[i]?=some (.s s):=by
    have:=congrArg (fun z=>z[i]?) hs1s
    simp only[List.getElem?_take,hi,if_true,List.getElem?_map,h1,Option.map_some] at this
    exact this
   rw[e1 i (by simp only[Sig.no];omega)] at h3
   have h4:=hR3.env i (.s s) y h3 (by
    have hvi:i<vs.length:=(List.getElem?_eq_some_iff.1 h2).1
    simp only[List.getElem?_toArray,List.getElem?_append,hvi,if_true]
    exact h2)
   exact RdS.step h4 hsame (fun _ h=>h.elim) (fun b hb=>.inl (hX b hb)) (.refl _)
 cases e with
 | normal=>exact key hk3
 | ret=>exact key hk3
 | exit id=>cases hk3
theorem XY{Γ:FuncId→Option Callee}{dok:Array Oper→Bool}{f:FuncId}{fn:Func}{code:ACode}{rv:List ResultVar}{nt:Nat}{sg:Sig}{U:sH sg.hin.shapes→Option (sH sg.hout.shapes)}
 (hΓ:GOK P Γ) (hD:UK P Γ dok) (hf:P.funcs[f]?=some fn) (hb:fn.body=some code.code) (hnt:fn.ntmps=nt) (hrv:fn.results.toList=rv) (hs:sg.ok nt=true)
 (hU:∀t q,U t=some q→Vx P Γ dok code rv nt sg t=some q):(aC sg U).OK P f:=
 UM hf hb hnt hrv hs fun t q hq {_} {_} {_} {_} {_} {_} {_} hx hG hR _ hn=>jY hΓ hD hG code (.inl hx) _ q hR (hU t q hq) fun ρ' st' a' w' e hR' hk=>hn ρ' st' a' w' e hR' hk
end
inductive HT where
 | leaf
 | seq (x y:HT)
 | one (x:HT)
 | cond (x y:HT)
 | loop (h:Hint) (xs:List (AEx×Hint)) (x:HT)
 | join (xs:List (AEx×Hint)) (x:HT)
 | unr (n:Nat) (x:HT)
 | regR
 | rng (h:Hint) (xs:List (AEx×Hint)) (x:HT)
def tC:Code→Option ACode
 | .skip=>some .skip
 | .region id ops draw=>some (.region id ops draw)
 | .seq x y=>match tC x,tC y with
  | some a,some b=>some (.seq a b)
  | _,_=>none
 | .cond c x y=>match tC x,tC y with
  | some a,some b=>some (.cond c a b)
  | _,_=>none
 | .block id x=>match tC x with
  | some a=>some (.block id a)
  | none=>none
 | .scope x=>match tC x with
  | some a=>some (.scope a)
  | none=>none
 | .label l=>some (.label l)
 | .exit id=>some (.exit id)
 | .ret=>some .ret
 | _=>none
def CS:HT→Code→Option ACode
 | .leaf,c=>tC c
 | .seq hx hy,.seq x y=>match CS hx x,CS hy y with
  | some a,some b=>some (.seq a b)
  | _,_=>none
 | .cond hx hy,.cond c x y=>match CS hx x,CS hy y with
  | some a,some b=>some (.cond c a b)
  | _,_=>none
 | .one hx,.block id x=>match CS hx x with
  | some a=>some (.block id a)
  | none=>none
 | .one hx,.scope x=>match CS hx x with
  | some a=>some (.scope a)
  | none=>none
 | .loop h xs hx,.loop x=>match CS hx x with
  | some a=>some (.loop h xs a)
  | none=>none
 | .join xs hx,c=>match CS hx c with
  | some a=>some (.join xs a)
  | none=>none
 | .unr n hx,.loop x=>match CS hx x with
  | some a=>some (.unr n a)
  | none=>none
 | .regR,.region id ops false=>some (.regR id ops)
 | .rng h xs hx,.loop (.seq (.region id ops false) x)=>match CS hx x with
  | some a=>some (.rng id ops h xs a)
  | none=>none
 | _,_=>none
theorem XZ:∀{c:Code} {a:ACode},tC c=some a→a.code=c:=by
 intro c
 induction c with
 | skip=>intro a h;cases h;rfl
 | region id ops draw=>intro a h;cases h;rfl
 | exit id=>intro a h;cases h;rfl
 | ret=>intro a h;cases h;rfl
 | seq x y ihx ihy=>
  intro a h
  simp only[tC] at h
  split at h
  ·rename_i h1 h2;cases h;simp only[ACode.code,ihx h1,ihy h2]
  ·cases h
 | cond c x y ihx ihy=>
  intro a h
  simp only[tC] at h
  split at h
  ·rename_i h1 h2;cases h;simp only[ACode.code,ihx h1,ihy h2]
  ·cases h
 | block id x ihx=>
  intro a h
  simp only[tC] at h
  split at h
  ·rename_i h1;cases h;simp only[ACode.code,ihx h1]
  ·cases h
 | scope x ihx=>
  intro a h
  simp only[tC] at h
  split at h
  ·rename_i h1;cases h;simp only[ACode.code,ihx h1]
  ·cases h
 | label l=>intro a h;cases h;rfl
 | _=>intro a h;simp[tC] at h
theorem Mr:∀{t:HT} {c:Code} {a:ACode},CS t c=some a→a.code=c:=by
 intro t
 induction t with
 | leaf=>intro c a h;exact XZ (by simpa[CS] using h)
 | seq hx hy ihx ihy=>
  intro c a h
  cases c with
  | seq x y=>
   simp only[CS] at h
   split at h
   ·rename_i h1 h2;cases h;simp only[ACode.code,ihx h1,ihy h2]
   ·cases h
  | _=>simp[CS] at h
 | cond hx hy ihx ihy=>
  intro c a h
  cases c with
  | cond c x y=>
   simp only[CS] at h
   split at h
   ·rename_i h1 h2;cases h;simp only[ACode.code,ihx h1,ihy h2]
   ·cases h
  | _=>simp[CS] at h
 | one hx ihx=>
  intro c a h
  cases c with
  | block id x=>
   simp only[CS] at h
   split at h
   ·rename_i h1;cases h;simp only[ACode.code,ihx h1]
   ·cases h
  | scope x=>
   simp only[CS] at h
   split at h
   ·rename_i h1;cases h;simp only[ACode.code,ihx h1]
   ·cases h
  | _=>simp[CS] at h
 | loop hd xs hx ihx=>
  intro c a h
  cases c with
  | loop x=>
   simp only[CS] at h
   split at h
   ·rename_i h1;cases h;simp only[ACode.code,ihx h1]
   ·cases h
  | _=>simp[CS] at h
 | join xs hx ihx=>
  intro c a h
  simp only[CS] at h
  split at h
  ·rename_i h1;cases h;simp only[ACode.code,ihx h1]
  ·cases h
 | unr n hx ihx=>
  intro c a h
  cases c with
  | loop x=>
   simp only[CS] at h
   split at h
   ·rename_i h1;cases h;simp only[ACode.code,ihx h1]
   ·cases h
  | _=>simp[CS] at h
 | regR=>
  intro c a h
  cases c with
  | region id ops draw=>
   cases draw with
   | false=>simp only[CS] at h;cases h;rfl
   | true=>simp[CS] at h
  | _=>simp[CS] at h
 | rng hd xs hx ihx=>
  intro c a h
  cases c with
  | loop x=>
   cases x with
   | seq x y=>
    cases x with
    | region id ops draw=>
     cases draw with
     | false=>
      simp only[CS] at h
      split at h
      ·rename_i h1;cases h;simp only[ACode.code,ihx h1]
      ·cases h
     | true=>simp[CS] at h
    | _=>simp[CS] at h
   | _=>simp[CS] at h
  | _=>simp[CS] at h
def UN(t:HT)(fn:Func):ACode:=match fn.body with
 | some c=>(CS t c).getD .skip
 | none=>.skip
def HA(t:HT)(fn:Func):Bool:=match fn.body with
 | some c=>(CS t c).isSome
 | none=>false
theorem SW{t:HT}{fn:Func}(h:HA t fn=true):fn.body=some (UN t fn).code:=by
 unfold HA at h
 unfold UN
 cases hb:fn.body with
 | none=>simp[hb] at h
 | some c=>
  simp only[hb] at h ⊢
  cases ha:CS t c with
  | none=>simp[ha] at h
  | some a=>simp only[ha,Option.getD_some,Mr ha]
def qG:List (FuncId×Callee)→FuncId→Option Callee
 | [],_=>none
 | p::l,f=>if p.1=f then some p.2 else qG l f
theorem GOK.nil{P:Program}:GOK P (qG []):=fun f A h=>by cases h
theorem GOK.cons{P:Program}{f:FuncId}{A:Callee}{l:List (FuncId×Callee)}(hc:A.ext=none→tX P f)(hA:A.OK P f)(hl:GOK P (qG l)):GOK P (qG ((f,A)::l)):=fun g B h=>by
 simp only[qG] at h
 split at h
 ·rename_i e;cases h;subst e;exact⟨hc,hA⟩
 ·exact hl g B h
def St.bare(st:St):St:={ st with env:=List.replicate st.env.length D.top }
section
variable {R:Type} {P:Program} {Γ:FuncId→Option Callee}
theorem SX(st:St)(dst:Option Nat)(o:O)(k:St→Nat→Option R):nK st dst o k=(nK st.bare dst o fun s key=>some (s.objs,key)).bind fun p=>k { st with objs:=p.1 } p.2:=by
 have hfi:uR st.bare=uR st:=by unfold uR St.bare;simp only[List.length_replicate]
 have h1:st.bare.objs=st.objs:=rfl
 have h2:st.bare.np=st.np:=rfl
 have h3:st.bare.env.length=st.env.length:=by simp[St.bare]
 cases dst with
 | none=>rfl
 | some d=>
  simp only[nK,hfi,h1,h2,h3]
  split
  ·rfl
  ·split
   ·rfl
   ·split <;> rfl
theorem nQ(st:St)(dst:Option Nat)(o:O)(f:Nat→D)(k:St→D→Option R):nK st dst o (fun s key=>k s (f key))=(nK st.bare dst o fun s key=>some (s.objs,f key)).bind fun p=>k { st with objs:=p.1 } p.2:=by
 have hfi:uR st.bare=uR st:=by unfold uR St.bare;simp only[List.length_replicate]
 have h1:st.bare.objs=st.objs:=rfl
 have h2:st.bare.np=st.np:=rfl
 have h3:st.bare.env.length=st.env.length:=by simp[St.bare]
 cases dst with
 | none=>rfl
 | some d=>
  simp only[nK,hfi,h1,h2,h3]
  split
  ·rfl
  ·split
   ·rfl
   ·split <;> rfl
theorem OC(st:St)(objs:List O)(dst:Option Nat)(o:O)(f:Nat→D)(k:St→D→Option R):nK { st with objs:=objs } dst o (fun s key=>k s (f key))=(nK { st.bare with objs:=objs } dst o fun s key=>some (s.objs,f key)).bind fun p=>k { st with objs:=p.1 } p.2:=by
 have h:=nQ { st with objs:=objs } dst o f k
 exact h
theorem AQ(st:St)(t:TypeId)(d:D)(k:D→Option R):zK P st t d k=(zK P st.bare t d some).bind k:=by
 unfold zK vG St.bare
 repeat' (first | split | dsimp only)
 all_goals first
  | rfl
  | simp_all [bM]
theorem Ba{R S:Type}(t:TypeId)(c:C)(f:T→Option R)(g:R→Option S):KI P t c (fun x=>(f x).bind g)=(KI P t c f).bind g:=by
 unfold KI
 split
 ·rw[bM]
 ·rw[bM]
 ·rw[bM]
 ·split
  ·split
   ·rw[bM]
   ·rfl
  ·rfl
 ·split <;> rfl
theorem nR{R S:Type}:∀(ts:List TypeId) (cs:List C) (f:List T→Option R) (g:R→Option S),mU P ts cs (fun x=>(f x).bind g)=(mU P ts cs f).bind g
 | [],[],_,_=>rfl
 | [],_::_,_,_=>rfl
 | _::_,[],_,_=>rfl
 | t::ts,c::cs,f,g=>by
  simp only[mU]
  rw[←Ba]
  congr 1
  funext x
  exact nR ts cs _ g
theorem X0(st:St)(t:TypeId)(d v:D)(k:St→Option R):yR P st t d v k=(yR P st.bare t d v fun s=>some s.objs).bind fun p=>k { st with objs:=p }:=by
 have hb:st.bare.objs=st.objs:=rfl
 unfold yR vG
 simp only[hb]
 repeat' (first | split | dsimp only)
 all_goals first
  | rfl
  | (rw[←nR];simp only[bM,Option.bind_some,Option.bind_none];done)
  | (rw[←nR];rfl)
  | simp_all [bM]
theorem UO(op:BinOp)(kd:IntKind)(a b:Int)(k:D→Option R):EA op kd a b k=(EA op kd a b some).bind k:=by
 unfold EA
 repeat' (first | split | dsimp only)
 all_goals first
  | rfl
  | simp_all [bM]
theorem Bb(op:BinOp)(kd:IntKind)(a b:Int)(k:D→Option R):qX op kd a b k=(qX op kd a b some).bind k:=by
 unfold qX
 repeat' (first | split | dsimp only)
 all_goals first
  | rfl
  | simp_all [bM]
theorem Bc(op:BinOp)(a b:ByteArray)(k:D→Option R):SG op a b k=(SG op a b some).bind k:=by
 unfold SG
 repeat' (first | split | dsimp only)
 all_goals first
  | rfl
  | simp_all [bM]
theorem Ms(op:UnOp)(t:TypeId)(x:D)(k:D→Option R):Rn (P:=P) op t x k=(Rn (P:=P) op t x some).bind k:=by
 unfold Rn QV QW LT
 repeat' (first | split | dsimp only)
 all_goals first
  | rfl
  | simp_all [bM]
theorem Je(x:D)(k:D→Option R):Iu x k=(Iu x some).bind k:=by
 unfold Iu vG
 repeat' (first | split | dsimp only)
 all_goals first
  | rfl
  | simp_all [bM]
theorem X1(t:TypeId)(parts:List (Nat×D))(k:D→Option R):FY P t parts k=(FY P t parts some).bind k:=by
 unfold FY
 repeat' (first | split | dsimp only)
 all_goals first
  | rfl
  | simp_all [bM]
theorem Q5(st:St)(s t:TypeId)(x:D)(k:D→Option R):zN P st s t x k=(zN P st.bare s t x some).bind k:=by
 unfold zN iY M0 vG LT qB St.bare
 repeat' (first | split | dsimp only)
 all_goals first
  | rfl
  | simp_all [bM]
theorem OD(fn:Fn)(f c:List D)(k:D→Option R):sV fn f c k=(sV fn f c some).bind k:=by
 unfold sV
 repeat' (first | split | dsimp only)
 all_goals first
  | rfl
  | simp_all [bM]
theorem uC(st:St)(t:TypeId)(x:D)(lo hi mx:Option D)(k:D→Option R):yT P st t x lo hi mx k=(yT P st.bare t x lo hi mx some).bind k:=by
 have hc:∀n c,Am st.bare n c=Am st n c:=fun _ _=>rfl
 unfold yT AG iY M0 vG LT
 simp only[hc]
 repeat' (first | split | dsimp only)
 all_goals first
  | rfl
  | simp_all [bM]
theorem LY(t:TypeId)(x:D)(f:Nat)(k:D→Option R):qE P t x f k=(qE P t x f some).bind k:=by
 unfold qE vG
 repeat' (first | split | dsimp only)
 all_goals first
  | rfl
  | simp_all [bM]
theorem X4(t:TypeId)(x:D)(f:Nat)(k:D→Option R):FZ P t x f k=(FZ P t x f some).bind k:=by
 unfold FZ
 repeat' (first | split | dsimp only)
 all_goals first
  | rfl
  | simp_all [bM]
theorem Be(st:St)(s t:TypeId)(x:D)(k:D→Option R):NO P st s t x k=(NO P st.bare s t x some).bind k:=by
 unfold NO
 split
 ·split
  ·unfold M0 LT
   repeat' (first | split | dsimp only)
   all_goals first
    | rfl
    | simp_all [bM]
  ·rfl
 ·exact Q5 st s t x k
theorem BH(st:St)(t:TypeId)(x ix:D)(k:D→Option R):gI P st t x ix k=(gI P st.bare t x ix some).bind k:=by
 unfold gI vG iY LT St.bare
 repeat' (first | split | dsimp only)
 all_goals first
  | rfl
  | (simp_all [bM];done)
  | (simp only[bM];congr 1;funext i;refine Eq.trans ?_ (CI _ _);congr 1;funext j;split <;> rfl)
theorem X5(t:TypeId)(x ix:D)(k:D→Option R):F0 P t x ix k=(F0 P t x ix some).bind k:=by
 unfold F0 M0 iY LT
 repeat' (first | split | dsimp only)
 all_goals first
  | rfl
  | (simp_all [bM];done)
  | (simp only[bM];congr 1;funext i;refine Eq.trans ?_ (CI _ _);congr 1;funext j;split <;> rfl)
theorem Q6(x:D)(i:Nat)(k:D→Option R):wJ x i k=(wJ x i some).bind k:=by
 unfold wJ
 repeat' (first | split | dsimp only)
 all_goals first
  | rfl
  | simp_all [bM]
theorem Jf(st:St)(t:TypeId)(x:D)(k:D→Option R):B6 P st t x k=(B6 P st.bare t x some).bind k:=by
 unfold B6 M0 vG LT St.bare
 repeat' (first | split | dsimp only)
 all_goals first
  | rfl
  | simp_all [bM]
theorem Jg(op:BinOp)(t yt:TypeId)(x y:D)(k:D→Option R):xH P op t yt x y k=(xH P op t yt x y some).bind k:=by
 unfold xH QV M0 QW LT
 repeat' (first | split | dsimp only)
 all_goals first
  | rfl
  | (simp only[bM,←Bb,←UO,←Bc];done)
  | simp_all [bM]
theorem JH{rc:∀{R:Type},TypeId→S1→S1→(Bool→Option R)→Option R}(hrc:∀{R:Type} (t:TypeId) (x y:S1) (k:Bool→Option R),rc t x y k=(rc t x y some).bind k)(cs ds:List C):
 ∀(fs:List Field) {R:Type} (k:Bool→Option R),UB P rc cs ds fs k=(UB P rc cs ds fs some).bind k
 | [],R,k=>rfl
 | f::fs,R,k=>by
  simp only[UB]
  split
  ·rfl
  split
  case h_2=>rfl
  split
  case h_2=>rfl
  rw[hrc,hrc (k:=fun b=>UB P rc cs ds fs fun r=>some (Q0 b r)),Option.bind_assoc]
  congr 1;funext b
  rw[JH hrc cs ds fs,JH hrc cs ds fs (k:=fun r=>some (Q0 b r)),Option.bind_assoc]
  rfl
theorem JI{rc:∀{R:Type},TypeId→S1→S1→(Bool→Option R)→Option R}(hrc:∀{R:Type} (t:TypeId) (x y:S1) (k:Bool→Option R),rc t x y k=(rc t x y some).bind k)(e:TypeId)(n:Nat)(ag:Bool)(cs ds:List C):
 ∀(is:List Nat) {R:Type} (k:Bool→Option R),UC rc e n ag cs ds is k=(UC rc e n ag cs ds is some).bind k
 | [],R,k=>rfl
 | i::is,R,k=>by
  simp only[UC]
  split
  case h_2=>rfl
  rw[hrc,hrc (k:=fun b=>UC rc e n ag cs ds is fun r=>some (Q0 b r)),Option.bind_assoc]
  congr 1;funext b
  rw[JI hrc e n ag cs ds is,JI hrc e n ag cs ds is (k:=fun r=>some (Q0 b r)),Option.bind_assoc]
  rfl
theorem vW:∀(d:Nat) {R:Type} (t:TypeId) (x y:S1) (k:Bool→Option R),F7 P d t x y k=(F7 P d t x y some).bind k
 | 0,R,t,x,y,k=>rfl
 | d+1,R,t,x,y,k=>by
  simp only[F7]
  split
  ·unfold QV LT;repeat' (first | split | dsimp only)
   all_goals first
    | rfl
    | (simp only[bM];done)
    | simp_all [bM]
  ·unfold QW LT;repeat' (first | split | dsimp only)
   all_goals first
    | rfl
    | (simp only[bM];done)
    | simp_all [bM]
  ·unfold M0 LT;repeat' (first | split | dsimp only)
   all_goals first
    | rfl
    | (simp only[bM];done)
    | simp_all [bM]
  ·split
   ·rfl
   split
   case h_2=>rfl
   exact JH (vW d) _ _ _ k
  ·split
   case h_2=>rfl
   exact JI (vW d) _ _ _ _ _ _ k
  ·rfl
theorem Jh(op:BinOp)(t yt:TypeId)(x y:D)(k:D→Option R):Io P op t yt x y k=(Io P op t yt x y some).bind k:=by
 unfold Io
 split
 ·split
  ·rfl
  unfold Rw
  split
  ·split
   ·split
    ·dsimp only;rw[vW,vW (k:=fun b=>some (dB b)),Option.bind_assoc];rfl
    ·split
     ·dsimp only;rw[vW,vW (k:=fun b=>some (dB (!b))),Option.bind_assoc];rfl
     ·rfl
   ·rfl
  ·rfl
 ·exact Jg op t yt x y k
theorem SY(st:St)(eq:Bool)(c:C)(k:D→Option R):As st eq c k=(As st.bare eq c some).bind k:=by
 have hb:st.bare.objs=st.objs:=rfl
 have hbif:∀(q:Bool) (d d':D),(bif q then k d else k d')=(bif q then some d else some d').bind k:=fun q d d'=>by cases q <;> rfl
 unfold As
 rw[hb]
 split
 ·rfl
 ·split
  ·exact hbif _ _ _
  ·rfl
 ·split
  ·exact hbif _ _ _
  ·rfl
 ·rfl
theorem Ji(st:St)(op:BinOp)(t yt:TypeId)(x y:D)(k:D→Option R):Q1 P st op t yt x y k=(Q1 P st.bare op t yt x y some).bind k:=by
 unfold Q1 vG
 split
 ·split
  ·split
   ·split
    ·exact SY _ _ _ _
    ·split
     ·exact SY _ _ _ _
     ·rfl
   ·rfl
  ·rfl
 ·exact Jh op t yt x y k
theorem KU(st:St)(dst:Option Nat)(e:TypeId)(k:St→D→Option R):qD P st dst e k=(qD P st.bare dst e fun s d=>some (s.objs,d)).bind fun p=>k { st with objs:=p.1 } p.2:=by
 unfold qD
 repeat' (first | split | dsimp only)
 all_goals first
  | rfl
  | exact nQ st dst _ (fun key=>.s (.c (.box key 0))) k
  | simp_all
theorem Jj(st:St)(dst:Option Nat)(v:D)(k:St→D→Option R):W9 st dst v k=(W9 st.bare dst v fun s d=>some (s.objs,d)).bind fun p=>k { st with objs:=p.1 } p.2:=by
 unfold W9
 repeat' (first | split | dsimp only)
 all_goals first
  | rfl
  | exact nQ st dst _ (fun key=>.s (.c (.box key 0))) k
  | simp_all
theorem LZ(st:St)(dst:Option Nat)(t:TypeId)(l c:D)(k:St→D→Option R):nM P st dst t l c k=(nM P st.bare dst t l c fun s d=>some (s.objs,d)).bind fun p=>k { st with objs:=p.1 } p.2:=by
 unfold nM iY LT
 repeat' (first | split | dsimp only)
 all_goals first
  | rfl
  | (simp only[bM];congr 1;funext i;congr 1;funext j;congr 1;funext q;exact nQ st dst _ (fun key=>.s (.c (.row key))) k)
  | simp_all [bM]
theorem UP(st:St)(dst:Option Nat)(t:TypeId)(l c:D)(k:St→D→Option R):xL P st dst t l c k=(xL P st.bare dst t l c fun s d=>some (s.objs,d)).bind fun p=>k { st with objs:=p.1 } p.2:=by
 unfold xL iY LT
 repeat' (first | split | dsimp only)
 all_goals first
  | rfl
  | (simp only[bM];congr 1;funext i;congr 1;funext j;congr 1;funext q;exact nQ st dst _ (fun key=>.s (.c (.rk key))) k)
  | simp_all [bM]
theorem HB(st:St)(dst:Option Nat)(t:TypeId)(n:Nat)(parts:List (Nat×D))(k:St→D→Option R):lU P st dst t n parts k=(lU P st.bare dst t n parts fun s d=>some (s.objs,d)).bind fun p=>k { st with objs:=p.1 } p.2:=by
 have hb:st.bare.objs=st.objs:=rfl
 unfold lU
 simp only[hb]
 repeat' (first | split | dsimp only)
 all_goals first
  | rfl
  | exact OC st _ dst _ (fun key=>.s (.c (.row key))) k
  | (rw[←nR];congr 1;funext ts;exact OC st _ dst _ (fun key=>.s (.c (.row key))) k)
  | simp_all [bM]
theorem JJ(st:St)(dst:Option Nat)(t:TypeId)(n:Nat)(parts:List (Nat×D))(k:St→D→Option R):lN P st dst t n parts k=(lN P st.bare dst t n parts fun s d=>some (s.objs,d)).bind fun p=>k { st with objs:=p.1 } p.2:=by
 unfold lN
 split
 ·split
  ·split
   ·split
    ·exact nQ st dst _ (fun key=>.s (.c (.row key))) k
    ·rfl
   ·rfl
  ·rfl
 ·exact HB st dst t n parts k
theorem vX(t:TypeId)(n:Nat)(parts:List (Nat×D))(k:D→Option R):Ig P t n parts k=(Ig P t n parts some).bind k:=by
 unfold Ig
 repeat' (first | split | dsimp only)
 all_goals first
  | rfl
  | (refine Eq.trans ?_ (nR _ _ _ k);rfl)
  | simp_all [bM]
theorem qK(st:St)(n:Nat)(c:C)(k:List T→Option R):qB st n c k=(qB st.bare n c some).bind k:=by
 have hb:st.bare.objs=st.objs:=rfl
 cases c with
 | t x=>simp only[qB,bM];rfl
 | row key=>
  simp only[qB,hb]
  cases st.objs[key]? with
  | none=>rfl
  | some o=>cases o with
   | row fz e n' es=>by_cases h:n'=n <;> simp[h]
   | _=>rfl
 | cut key m lo len tg=>
  simp only[qB,hb]
  cases st.objs[key]? with
  | none=>rfl
  | some o=>cases o with
   | row fz e n' es=>by_cases h:n'=n∧m=n <;> simp[h]
   | _=>rfl
 | _=>rfl
theorem SZ(st:St)(e:TypeId)(n:Nat)(c:C)(k:St→List T→Option R):LU st e n c k=(LU st.bare e n c fun s l=>some (s.objs,l)).bind fun p=>k { st with objs:=p.1 } p.2:=by
 unfold LU St.bare
 repeat' (first | split | dsimp only)
 all_goals first
  | rfl
  | simp_all [bM]
theorem S0(mx:Bool)(t:TypeId)(x y:D)(k:D→Option R):NS P mx t x y k=(NS P mx t x y some).bind k:=by
 unfold NS QV M0 LT
 repeat' (first | split | dsimp only)
 all_goals first
  | rfl
  | simp_all [bM]
theorem Bf(st:St)(t:TypeId)(s x:D)(k:St→D→Option R):NQ P st t s x k=(NQ P st.bare t s x fun s d=>some (s.objs,d)).bind fun p=>k { st with objs:=p.1 } p.2:=by
 have hb:st.bare.objs=st.objs:=rfl
 have hbb:st.bare.bare=st.bare:=by simp[St.bare]
 unfold NQ
 split
 ·split
  ·unfold vG
   split
   ·dsimp only
    split
    ·refine(qK st _ _ _).trans (Eq.trans ?_ (congrArg (fun z:Option (List O×D)=>z.bind fun p=>k { st with objs:=p.1 } p.2) (qK st.bare _ _ _)).symm)
     rw[hbb,Option.bind_assoc]
     refine congrArg _ (funext fun m=>?_)
     simp only[hb]
     repeat' (first | rfl | split)
    ·rfl
   ·rfl
  ·rfl
 ·rfl
theorem UQ(st:St)(dst:Option Nat)(t u:TypeId)(s x:D)(k:St→D→Option R):xK P st dst t u s x k=(xK P st.bare dst t u s x fun s d=>some (s.objs,d)).bind fun p=>k { st with objs:=p.1 } p.2:=by
 have fin:∀(e:TypeId) (n:Nat) (c:C) (m:List T) (b:Nat),(LU st e n c fun st' l=>ob (room l m b) fun q=>nK st' dst (.row false e n q) fun st key=>k st (.s (.c (.row key)))) =
  (LU st.bare e n c fun st' l=>ob (room l m b) fun q=>nK st' dst (.row false e n q) fun s key=>some (s.objs,.s (.c (.row key)))).bind fun p=>k { st with objs:=p.1 } p.2:=fun e n c m b=>by
  rw[SZ,SZ st.bare e n c (fun st' l=>ob (room l m b) fun q=>nK st' dst (.row false e n q) fun s key=>(some (s.objs,D.s (.c (.row key))):Option (List O×D)))]
  have hbb:st.bare.bare=st.bare:=by simp[St.bare]
  rw[hbb,Option.bind_assoc]
  congr 1
  funext p
  rw[bM]
  congr 1
  funext q
  rw[nQ { st with objs:=p.1 } dst _ (fun key=>.s (.c (.row key))) k,nQ { st.bare with objs:=p.1 } dst _ (fun key=>.s (.c (.row key))) (fun s d=>some (s.objs,d)),Option.bind_assoc]
  have h3:(St.bare { st.bare with objs:=p.1 })=St.bare { st with objs:=p.1 }:=by simp[St.bare]
  rw[h3]
  rfl
 unfold xK
 split
 ·split
  ·split
   ·split
    ·unfold vG
     split
     ·dsimp only
      split
      ·split
       ·have hbb:st.bare.bare=st.bare:=by simp[St.bare]
        refine(qK st _ _ _).trans (Eq.trans ?_ (congrArg (fun z:Option (List O×D)=>z.bind fun p=>k { st with objs:=p.1 } p.2) (qK st.bare _ _ _)).symm)
        rw[hbb,Option.bind_assoc]
        exact congrArg _ (funext fun m=>fin _ _ _ _ _)
       ·rfl
      ·split
       ·unfold M0 LT
        split
        ·simp only[bM]
         exact congrArg _ (funext fun m=>fin _ _ _ _ _)
        ·rfl
       ·rfl
     ·rfl
    ·rfl
   ·rfl
  ·rfl
 ·rfl
theorem Bg(st:St)(dst:Option Nat)(t u:TypeId)(key i:Nat)(x:D)(k:St→D→Option R):KM P st dst t u key i x k=(KM P st.bare dst t u key i x fun s d=>some (s.objs,d)).bind fun p=>k { st with objs:=p.1 } p.2:=by
 have hbo:st.bare.objs=st.objs:=rfl
 have hbb:st.bare.bare=st.bare:=by simp[St.bare]
 have fin:∀(o:O),(nK st dst o fun st' K=>k { st' with objs:=st'.objs.set key (.fwd K) } (.s (.c (.inn K i)))) =
  (nK st.bare dst o fun s K=>some (s.objs.set key (.fwd K),D.s (.c (.inn K i)))).bind fun p=>k { st with objs:=p.1 } p.2:=fun o=>by
  have e1:=SX st dst o fun st' K=>k { st' with objs:=st'.objs.set key (.fwd K) } (.s (.c (.inn K i)))
  have e2:=SX st.bare dst o fun s K=>(some (s.objs.set key (.fwd K),D.s (.c (.inn K i))):Option (List O×D))
  refine e1.trans (Eq.trans ?_ (congrArg (fun z:Option (List O×D)=>z.bind fun p=>k { st with objs:=p.1 } p.2) e2).symm)
  rw[hbb,Option.bind_assoc]
  rfl
 unfold KM
 split
 ·split
  ·split
   ·split
    ·unfold vG
     split
     ·dsimp only
      refine(qK st _ _ _).trans (Eq.trans ?_ (congrArg (fun z:Option (List O×D)=>z.bind fun p=>k { st with objs:=p.1 } p.2) (qK st.bare _ _ _)).symm)
      rw[hbb,Option.bind_assoc]
      refine congrArg _ (funext fun m=>?_)
      simp only[hbo]
      split
      ·split
       ·simp only[bM]
        refine congrArg _ (funext fun old=>congrArg _ (funext fun q=>?_))
        exact fin _
       ·rfl
      ·rfl
     ·rfl
    ·rfl
   ·rfl
  ·rfl
 ·rfl
theorem UR(st:St)(dst:Option Nat)(t u:TypeId)(s x:D)(k:St→D→Option R):vH P st dst t u s x k=(vH P st.bare dst t u s x fun s d=>some (s.objs,d)).bind fun p=>k { st with objs:=p.1 } p.2:=by
 unfold vH
 split
 ·exact Bg _ _ _ _ _ _ _ _
 ·exact UQ _ _ _ _ _ _ _
end
theorem X6{R:Type}{P:Program}(st:St)(t:TypeId)(x:D)(lo hi mx:Option D)(k:St→D→Option R):wI P st t x lo hi mx k=(wI P st.bare t x lo hi mx fun s d=>some (s.objs,d)).bind fun p=>k { st with objs:=p.1 } p.2:=by
 have hb:st.bare.objs=st.objs:=rfl
 unfold wI
 split
 ·split
  ·unfold zM
   simp only[hb]
   repeat' (first | split | dsimp only)
   all_goals first
    | rfl
    | (rw[←nR];rfl)
  ·rfl
 ·have hbb:st.bare.bare=st.bare:=by simp[St.bare]
  have e2:=uC (P:=P) st.bare t x lo hi mx (fun d=>(some (st.bare.objs,d):Option (List O×D)))
  rw[hbb] at e2
  refine(uC st t x lo hi mx fun d=>k st d).trans (Eq.trans ?_ (congrArg (fun z:Option (List O×D)=>z.bind fun p=>k { st with objs:=p.1 } p.2) e2).symm)
  rw[Option.bind_assoc]
  rfl
section
variable {R S:Type} {P:Program}
end
def Inl.Nat(I:Inl):Prop:=∀{R:Type} (st:St) (dst:Option _root_.Nat) (ds:List D) (k:St→D→Option R),I.go st dst ds k=(I.go st.bare dst ds fun s d=>some (s.objs,d)).bind fun p=>k { st with objs:=p.1 } p.2
def Callee.Nat0(A:Callee):Prop:=∀{R:Type} (args:List S1) (po:List O) (k:List S1→List O→Option R),A.call args po k=(A.call args po fun rs po'=>some (rs,po')).bind fun p=>k p.1 p.2
def Ext.Nat(I:Ext):Prop:=∀{R:Type} (ds:List D) (k:D→Option R),I.go ds k=(I.go ds some).bind k
def Callee.Nat(A:Callee):Prop:=A.Nat0∧(∀I,A.inl=some I→I.Nat)∧∀I,A.ext=some I→I.Nat
section
variable {R:Type} {P:Program} {Γ:FuncId→Option Callee}
theorem OE(st:St)(ks:List Nat):∀(cs:List C) (j:Nat) (ms:List (Option (TypeId×Nat))),kX st.bare ks j ms cs=kX st ks j ms cs
 | [],j,ms=>by cases ms <;> rfl
 | c::cs,j,ms=>by
  have h1:∀m,BE st.bare m c=BE st m c:=fun m=>rfl
  have h2:BD st.bare ks c=BD st ks c:=rfl
  simp only[kX,OE st ks cs,h1,h2]
theorem X7(st:St)(objs:List O)(dst:Option Nat)(n:Nat):uS { st.bare with objs:=objs } dst n=uS { st with objs:=objs } dst n:=by
 unfold uS St.bare
 simp only[List.length_replicate]
theorem GB{A:Callee}(hA:A.Nat)(st:St)(dst:Option Nat)(ds:List D)(k:St→D→Option R):
 sO A st dst ds k=(sO A st.bare dst ds fun s d=>some (s.objs,d)).bind fun p=>k { st with objs:=p.1 } p.2:=by
 have hb:st.bare.objs=st.objs:=rfl
 obtain⟨hA,hAi,_⟩:=hA
 unfold sO
 cases hinl:A.inl with
 | some I=>exact hAi I hinl st dst ds k
 | none=>
 dsimp only
 unfold uT
 cases Im ds with
 | none=>rfl
 | some ss=>
  dsimp only
  rw[hb]
  cases mT ((pA A.deep st.objs ss).map (tY st.objs)) with
  | none=>rfl
  | some bl=>
   dsimp only
   rw[OE]
   cases kX st (pA A.deep st.objs ss) (pA A.deep st.objs ss).length A.rows (ss.flatMap S1.list++bl.flatten) with
   | none=>rfl
   | some q=>
    obtain⟨cs,rws⟩:=q
    dsimp only
    split
    ·refine(hA _ _ _).trans (Eq.trans ?_ (congrArg (fun z:Option (List O×D)=>z.bind fun p=>k { st with objs:=p.1 } p.2) (hA _ _ _)).symm)
     rw[Option.bind_assoc]
     refine congrArg _ (funext fun p=>?_)
     obtain⟨rs,po'⟩:=p
     dsimp only
     rw[X7]
     split
     ·rfl
     ·split
      ·rfl
      ·split
       ·split <;> rfl
       ·rfl
    ·rfl
theorem CT(hΓ:∀f A,Γ f=some A→A.Nat)(st:St)(dst:Option Nat)(f:D)(args:List D)(k:St→D→Option R):
 iZ Γ st dst f args k=(iZ Γ st.bare dst f args fun s d=>some (s.objs,d)).bind fun p=>k { st with objs:=p.1 } p.2:=by
 unfold iZ vG
 split
 ·dsimp only
  split
  ·split
   ·split
    ·rename_i A hA
     split
     ·rename_i I hI
      refine((hΓ _ A hA).2.2 I hI _ _).trans (Eq.trans ?_ (congrArg (fun z:Option (List O×D)=>z.bind fun p=>k { st with objs:=p.1 } p.2) ((hΓ _ A hA).2.2 I hI _ _)).symm)
      rw[Option.bind_assoc]
      rfl
     ·exact GB (hΓ _ A hA) st dst args k
    ·rfl
   ·rfl
  ·split
   ·rename_i A hA
    split
    ·rfl
    ·exact GB (hΓ _ A hA) st dst _ k
   ·rfl
  ·rfl
 ·rfl
end
section
variable {R:Type} (P:Program) (Γ:FuncId→Option Callee)
def fL(b:St)(dst:Option Nat)(ty:TypeId)(bi:Builtin)(args:List D)(ts:List TypeId):Option (List O×D):=match bi,args,ts with
 | .len,[x],[t]=>(B6 P b t x some).bind fun d=>some (b.objs,d)
 | .append,[s,x],[t,u]=>vH P b dst t u s x fun s d=>some (s.objs,d)
 | .copy,[s,x],[t,_]=>NQ P b t s x fun s d=>some (s.objs,d)
 | .min,[x,y],[t,_]=>(NS P false t x y some).bind fun d=>some (b.objs,d)
 | .max,[x,y],[t,_]=>(NS P true t x y some).bind fun d=>some (b.objs,d)
 | _,_,_=>none
def OF(b:St)(dst:Option Nat)(f:D)(args:List D):Option (List O×D):=match B7 Γ with
 | []=>iZ Γ b dst f args fun s d=>some (s.objs,d)
 | B=>if rC (dG Γ) dst=true then iZ Γ b dst f args fun s d=>some (s.objs,d) else if At B (f::args)=true then (iZ Γ b dst f args fun s d=>some (s.objs,d)).bind fun p=>if W2 B b.objs p.1=true then some p else none else none
def S2(b:St)(dst:Option Nat)(f:D)(args:List D):Option (List O×D):=if (XM Γ b.objs dst (f::args)&&BG Γ b dst (f::args))=true then OF Γ b dst f args else none
def CU(Γ:FuncId→Option Callee)(P:Program)(b:St)(dst:Option Nat)(t:TypeId):Option (List O×D):=match B7 Γ with
 | []=>qD P b dst t fun s d=>some (s.objs,d)
 | B=>if (JD Γ b dst&&SQ Γ b dst)=true then (qD P b dst t fun s d=>some (s.objs,d)).bind fun p=>if (W2 B b.objs p.1||rC (dG Γ) dst)=true then some p else none else none
def OG(o:Oper)(b:St)(e:Operand→D):Option (List O×D):=match o.op with
 | .move x=>some (b.objs,e x)
 | .assign x=>some (b.objs,e x)
 | .pick c x y=>(QW (e c) some).bind fun q=>some (b.objs,bif q then e x else e y)
 | .alloc t=>CU Γ P b o.dst t
 | .box _ x=>W9 b o.dst (e x) fun s d=>some (s.objs,d)
 | .build t parts=>(FY P t (parts.toList.map fun p=>(p.1,e p.2)) some).bind fun d=>some (b.objs,d)
 | .buildSlice t len parts=>Xo Γ P b o.dst t len (parts.toList.map fun p=>(p.1,e p.2)) fun s d=>some (s.objs,d)
 | .load t x=>if SR Γ o.dst (e x)=true then (xN Γ P b o.dst t (e x) some).bind fun d=>some (b.objs,d) else none
 | .store t x v=>if (Mb Γ t (e x)&&Vw Γ t (e x))=true then (yR P b t (e x) (e v) fun s=>some s.objs).bind fun q=>some (q,D.top) else none
 | .nilCheck x=>(Iu (e x) some).bind fun d=>some (b.objs,d)
 | .binOp op t x y yt=>(Q1 P b op t yt (e x) (e y) some).bind fun d=>some (b.objs,d)
 | .unOp op t x=>(Rn (P:=P) op t (e x) some).bind fun d=>some (b.objs,d)
 | .convert s t x=>(NO P b s t (e x) some).bind fun d=>some (b.objs,d)
 | .makeFunc fn f c=>(sV fn (f.toList.map e) (c.toList.map e) some).bind fun d=>some (b.objs,d)
 | .makeSlice t l c=>i0 Γ P b o.dst t (e l) (e c) fun s d=>some (s.objs,d)
 | .slice t x lo hi mx=>if (NV Γ o.dst (e x)&&Eh Γ o.dst (e x))=true then wI P b t (e x) (lo.map e) (hi.map e) (mx.map e) fun s d=>some (s.objs,d) else none
 | .fieldAddr t x f=>(qE P t (e x) f some).bind fun d=>some (b.objs,d)
 | .field t x f=>(FZ P t (e x) f some).bind fun d=>some (b.objs,d)
 | .indexAddr t x ix=>(rD Γ P b o.dst t (e x) (e ix) some).bind fun d=>some (b.objs,d)
 | .index t x ix=>(F0 P t (e x) (e ix) some).bind fun d=>some (b.objs,d)
 | .extract x i=>(wJ (e x) i some).bind fun d=>some (b.objs,d)
 | .call { callee:=.builtin bi,args,argTypes }=>if zO Γ b o.dst bi (args.toList.map e)=true then fL P b o.dst o.type bi (args.toList.map e) argTypes.toList else none
 | .call { callee:=.value f,args,.. }=>S2 Γ b o.dst (e f) (args.toList.map e)
 | _=>none
end
section
variable {R:Type} {P:Program} {Γ:FuncId→Option Callee}
theorem OH(d:D)(k:Bool→Option R):QW d k=(QW d some).bind k:=by
 unfold QW LT
 split
 ·simp only[bM];rfl
 ·rfl
theorem Q7(st:St)(dst:Option Nat)(ty:TypeId)(bi:Builtin)(args:List D)(ts:List TypeId)(k:St→D→Option R):
 G5 P st dst ty bi args ts k=(fL P st.bare dst ty bi args ts).bind fun p=>k { st with objs:=p.1 } p.2:=by
 unfold G5
 split
 ·dsimp only[fL]
  rw[Jf,Option.bind_assoc];rfl
 ·exact UR st dst _ _ _ _ k
 ·exact Bf st _ _ _ k
 ·dsimp only[fL]
  rw[S0,Option.bind_assoc];rfl
 ·dsimp only[fL]
  rw[S0,Option.bind_assoc];rfl
 ·rename_i h1 h2 h3 h4 h5
  unfold fL
  split
  ·exact(h1 _ _ rfl rfl rfl).elim
  ·exact(h2 _ _ _ _ rfl rfl rfl).elim
  ·exact(h3 _ _ _ _ rfl rfl rfl).elim
  ·exact(h4 _ _ _ _ rfl rfl rfl).elim
  ·exact(h5 _ _ _ _ rfl rfl rfl).elim
  ·rfl
theorem Bh(st:St)(dst:Option Nat)(t:TypeId)(d:D)(k:D→Option R):xN Γ P st dst t d k=(xN Γ P st.bare dst t d some).bind k:=by
 have hbx:AL st.bare d=AL st d:=rfl
 unfold xN
 rw[hbx]
 split
 ·exact AQ _ _ _ _
 ·split
  ·exact AQ _ _ _ _
  ·rfl
theorem X8(st:St)(dst:Option Nat)(t:TypeId)(x ix:D)(k:D→Option R):rD Γ P st dst t x ix k=(rD Γ P st.bare dst t x ix some).bind k:=by
 unfold rD
 split
 ·exact BH _ _ _ _ _
 ·split
  ·exact BH _ _ _ _ _
  ·rfl
theorem X9(st:St)(dst:Option Nat)(e:TypeId)(k:St→D→Option R):UG Γ P st dst e k=(CU Γ P st.bare dst e).bind fun p=>k { st with objs:=p.1 } p.2:=by
 unfold UG CU
 have ho:JD Γ st.bare dst=JD Γ st dst:=rfl
 have ho2:SQ Γ st.bare dst=SQ Γ st dst:=rfl
 rw[ho,ho2]
 generalize B7 Γ=B
 cases B with
 | nil=>exact KU _ _ _ _
 | cons w B=>
  dsimp only
  split
  case isFalse=>rfl
  refine(KU _ _ _ _).trans ?_
  rw[Option.bind_assoc]
  refine congrArg _ (funext fun p=>?_)
  have hb:st.bare.objs=st.objs:=rfl
  rw[hb]
  split <;> rfl
theorem BI(Γ:FuncId→Option Callee)(st:St)(dst:Option Nat)(t:TypeId)(l c:D)(k:St→D→Option R):fJ Γ P st dst t l c k=(fJ Γ P st.bare dst t l c fun s d=>some (s.objs,d)).bind fun p=>k { st with objs:=p.1 } p.2:=by
 unfold fJ
 split
 ·exact UP _ _ _ _ _ _
 ·exact LZ _ _ _ _ _ _
theorem L0(Γ:FuncId→Option Callee)(st:St)(dst:Option Nat)(t:TypeId)(l c:D)(k:St→D→Option R):i0 Γ P st dst t l c k=(i0 Γ P st.bare dst t l c fun s d=>some (s.objs,d)).bind fun p=>k { st with objs:=p.1 } p.2:=by
 have hown:JD Γ st.bare dst=JD Γ st dst:=rfl
 unfold i0
 cases B7 Γ with
 | nil=>exact BI _ _ _ _ _ _ _
 | cons w B=>
  dsimp only
  rw[hown]
  split
  ·exact BI _ _ _ _ _ _ _
  ·rfl
theorem Mu(st:St)(dst:Option Nat)(d:D):(st.put dst d).objs=st.objs:=by cases dst <;> rfl
theorem Bi(st:St)(dst:Option Nat)(ds:List D):BG Γ st.bare dst ds=BG Γ st dst ds:=by
 unfold BG St.bare
 simp only[List.length_replicate]
theorem Bj(st:St)(dst:Option Nat)(b:Builtin)(ds:List D):zO Γ st.bare dst b ds=zO Γ st dst b ds:=by
 unfold zO Vv
 simp only[Bi]
 rfl
theorem Bk(hΓ:∀f A,Γ f=some A→A.Nat)(st:St)(dst:Option Nat)(f:D)(args:List D)(k:St→Option R):
 Eg Γ st dst f args k=(S2 Γ st.bare dst f args).bind fun p=>k (({ st with objs:=p.1 }:St).put dst p.2):=by
 unfold Eg S2
 have hb0:st.bare.objs=st.objs:=rfl
 have hb1:BG Γ st.bare dst (f::args)=BG Γ st dst (f::args):=by
  unfold BG St.bare
  simp only[List.length_replicate]
 rw[hb0,hb1]
 split
 case isFalse=>rfl
 unfold Au OF
 generalize B7 Γ=B
 cases B with
 | nil=>exact CT hΓ st dst _ _ fun st d=>k (st.put dst d)
 | cons q B=>
  dsimp only
  split
  ·exact CT hΓ st dst _ _ fun st d=>k (st.put dst d)
  split
  ·refine(CT hΓ st dst _ _ _).trans ?_
   rw[Option.bind_assoc]
   refine congrArg _ (funext fun p=>?_)
   rw[Mu]
   have hb:st.bare.objs=st.objs:=rfl
   rw[hb]
   split <;> rfl
  ·rfl
theorem OI(hΓ:∀f A,Γ f=some A→A.Nat)(o:Oper)(st:St)(k:St→Option R):Xp P Γ o st k=(OG P Γ o st.bare (ev st)).bind fun p=>k (({ st with objs:=p.1 }:St).put o.dst p.2):=by
 obtain⟨dst,op,ty,pos,after,guard⟩:=o
 unfold Xp OG
 cases op with
 | move x=>rfl
 | assign x=>rfl
 | pick c x y=>
  dsimp only
  rw[OH,Option.bind_assoc]
  exact congrArg _ (funext fun q=>by cases q <;> rfl)
 | alloc e=>exact X9 st dst _ fun st d=>k (st.put dst d)
 | box e x=>exact Jj st dst _ fun st d=>k (st.put dst d)
 | build t parts=>dsimp only;rw[X1,Option.bind_assoc];rfl
 | buildSlice t n parts=>
  dsimp only
  unfold Xo
  split
  ·rw[vX,vX (k:=fun d=>some (st.bare.objs,d)),Option.bind_assoc];rfl
  show (if Ei Γ st.objs dst=true then _ else _)=Option.bind (if Ei Γ st.objs dst=true then _ else _) _
  split
  ·exact JJ st dst _ _ _ fun st d=>k (st.put dst d)
  ·rfl
 | load t x=>
  dsimp only
  split
  ·rw[Bh,Option.bind_assoc];rfl
  ·rfl
 | store t x v=>
  dsimp only
  split
  ·rw[X0,Option.bind_assoc];rfl
  ·rfl
 | nilCheck x=>dsimp only;rw[Je,Option.bind_assoc];rfl
 | binOp op t x y yt=>dsimp only;rw[Ji,Option.bind_assoc];rfl
 | unOp op t x=>dsimp only;rw[Ms,Option.bind_assoc];rfl
 | convert s t x=>dsimp only;rw[Be,Option.bind_assoc];rfl
 | makeFunc fn f c=>dsimp only;rw[OD,Option.bind_assoc];rfl
 | makeSlice t l c=>exact L0 Γ st dst _ _ _ fun st d=>k (st.put dst d)
 | slice t x lo hi mx=>
  dsimp only
  split
  ·exact X6 st t _ _ _ _ fun st d=>k (st.put dst d)
  ·rfl
 | fieldAddr t x f=>dsimp only;rw[LY,Option.bind_assoc];rfl
 | field t x f=>dsimp only;rw[X4,Option.bind_assoc];rfl
 | indexAddr t x ix=>dsimp only;rw[X8,Option.bind_assoc];rfl
 | index t x ix=>dsimp only;rw[X5,Option.bind_assoc];rfl
 | extract x i=>dsimp only;rw[Q6,Option.bind_assoc];rfl
 | call c=>
  obtain⟨callee,args,argTypes⟩:=c
  cases callee with
  | builtin b=>
   dsimp only
   rw[Bj]
   split
   ·exact Q7 st dst ty b _ _ fun st d=>k (st.put dst d)
   ·rfl
  | value f=>exact Bk hΓ st dst _ _ k
  | _=>rfl
 | _=>rfl
end
section
variable (P:Program) (Γ:FuncId→Option Callee) (ops:Array Oper)
def S3(d:D):Option Bool:=match d with
 | .s (.c (.t (.v (.bool b))))=>some b
 | _=>none
def Es(want:Bool)(d:D):Option Bool:=Iv d (some false) ((S3 d).map (·==want))
def gd(o:Oper)(st:St):Option Bool:=match o.guard with
 | none=>some true
 | some (j,want)=>match (ops[j]?).bind (·.dst) with
  | none=>none
  | some t=>Es want (st.env.getD t D.top)
def qL(o:Oper)(st:St):Option (List O×D):=(gd ops o st).bind fun w=>bif w then OG P Γ o st.bare (ev st) else some (st.objs,Q2)
def St.with(st:St)(dst:Option Nat)(p:List O×D):St:=({ st with objs:=p.1 }:St).put dst p.2
def vD(i:Nat)(st:St):Option St:=match ops[i]? with
 | none=>some st
 | some o=>(qL P Γ ops o st).map (st.with o.dst)
end
section
variable {R:Type} {P:Program} {Γ:FuncId→Option Callee} {ops:Array Oper}
theorem Jk(d:D)(k:Bool→Option R):QW d k=(S3 d).bind k:=by
 cases d with
 | tup l=>rfl
 | s x=>cases x with
  | agg l=>rfl
  | c c=>cases c with
   | t x=>cases x with
    | v y=>cases y <;> rfl
    | _=>rfl
   | _=>rfl
theorem Mv{d:D}{b:Bool}(h:S3 d=some b):d=dB b:=by
 unfold S3 at h
 split at h
 ·cases h;rfl
 ·cases h
theorem Mw(st:St){t:Nat}{b:Bool}(h:st.env.getD t D.top=dB b):st.put (some t) (dB b)=st:=by
 unfold St.put
 have hlt:t<st.env.length:=by
  apply Classical.byContradiction
  intro hge
  rw[List.getD_eq_getElem?_getD,List.getElem?_eq_none (by omega)] at h
  cases h
 have:st.env[t]=dB b:=by rw[List.getD_eq_getElem?_getD,List.getElem?_eq_getElem hlt] at h;exact h
 have h2:st.env.set t (dB b)=st.env:=by rw[←this];exact List.set_getElem_self hlt
 dsimp only
 rw[h2]
theorem vY(hΓ:∀f A,Γ f=some A→A.Nat):∀(l:List Nat) (st:St) (k:St→Option R),CO P Γ ops l st k=(l.foldlM (fun st i=>vD P Γ ops i st) st).bind k
 | [],st,k=>rfl
 | i::l,st,k=>by
  rw[List.foldlM_cons]
  simp only[CO,vD]
  cases ho:ops[i]? with
  | none=>exact vY hΓ l st k
  | some o=>
   dsimp only
   have fin:∀(p:Option (List O×D)),(p.bind fun p=>CO P Γ ops l (({ st with objs:=p.1 }:St).put o.dst p.2) k)=((p.map (st.with o.dst)).bind fun s=>l.foldlM (fun st i=>vD P Γ ops i st) s).bind k:=fun p=>by
    cases p with
    | none=>rfl
    | some p=>exact vY hΓ l _ k
   cases hg:o.guard with
   | none=>
    dsimp only
    rw[OI hΓ]
    have:qL P Γ ops o st=OG P Γ o st.bare (ev st):=by simp[qL,gd,hg]
    rw[this]
    exact fin _
   | some g=>
    obtain⟨j,want⟩:=g
    dsimp only
    cases hd:(ops[j]?).bind (·.dst) with
    | none=>simp[qL,gd,hg,hd]
    | some t=>
     dsimp only
     rw[Jk]
     unfold Iv
     split
     ·rename_i hoff
      have he:qL P Γ ops o st=some (st.objs,Q2):=by
       simp only[qL,gd,hg,hd,hoff,Es,Iv,Option.bind_some,cond_false]
      rw[he]
      exact fin (some (st.objs,Q2))
     rename_i hoff
     have hbw:Es want (st.env.getD t D.top)=(S3 (st.env.getD t D.top)).map (·==want):=by
      unfold Es Iv
      split
      ·rename_i h;exact(hoff h).elim
      ·rfl
     cases hb:S3 (st.env.getD t D.top) with
     | none=>simp only[qL,gd,hg,hd,hbw,hb];rfl
     | some b=>
      have hs:=Mw st (Mv hb)
      have he:qL P Γ ops o st=bif b==want then OG P Γ o st.bare (ev st) else some (st.objs,Q2):=by
       simp only[qL,gd,hg,hd,hbw,hb,Option.map_some,Option.bind_some]
      rw[he]
      cases b with
      | true=>
       simp only[Option.bind_some,cond_true]
       rw[hs]
       cases want with
       | true=>simp only[if_true];rw[OI hΓ];exact fin _
       | false=>exact fin (some (st.objs,Q2))
      | false=>
       simp only[Option.bind_some,cond_false]
       rw[hs]
       cases want with
       | true=>exact fin (some (st.objs,Q2))
       | false=>simp only[Bool.false_eq_true,if_false];rw[OI hΓ];exact fin _
theorem Xw{st:St}{t:Nat}{d:D}{x:Operand}(h:x≠.tmp t):ev (st.put (some t) d) x=ev st x:=by
 cases x with
 | tmp i=>
  have hne:t≠i:=fun e=>h (e▸rfl)
  simp only[ev,St.put,List.getD_eq_getElem?_getD]
  rw[List.getElem?_set_ne hne]
 | _=>rfl
theorem Mx(st:St)(dst:Option Nat)(d:D):(st.put dst d).bare=st.bare:=by
 cases dst with
 | none=>rfl
 | some i=>simp[St.put,St.bare]
theorem Jl{e e':Operand→D}(o:Oper)(b:St)(h:∀x∈o.op.operands,e x=e' x):OG P Γ o b e=OG P Γ o b e':=by
 obtain⟨dst,op,type,pos,after,guard⟩:=o
 have pairs:∀ps:Array (Nat×Operand),(∀x∈(ps.toList.map (·.2)).toArray,e x=e' x)→(ps.toList.map fun p=>(p.1,e p.2))=(ps.toList.map fun p=>(p.1,e' p.2)):=fun ps hp=>
  List.map_congr_left fun p hm=>by rw[hp p.2 (by simp only[List.mem_toArray,List.mem_map];exact⟨p,hm,rfl⟩)]
 have lst:∀l:Array Operand,(∀x∈l,e x=e' x)→l.toList.map e=l.toList.map e':=fun l hl=>List.map_congr_left fun x hx=>hl x (Array.mem_toList_iff.1 hx)
 cases op <;> simp only[Op.operands] at h <;> unfold OG <;> dsimp only
 case build t ps=>rw[pairs ps h]
 case buildSlice t n ps=>rw[pairs ps h]
 case makeFunc fn first captured=>rw[lst first fun x hx=>h x (by simp[hx]),lst captured fun x hx=>h x (by simp[hx])]
 case slice t x lo hi mx=>cases lo <;> cases hi <;> cases mx <;> simp_all
 case call c=>
  obtain⟨callee,args,ats⟩:=c
  have hargs:=lst args fun x hx=>h x (by simp[Call.operands,hx])
  cases callee with
  | builtin bi=>dsimp only;rw[hargs]
  | value f=>dsimp only;rw[hargs,h f (by simp[Call.operands])]
  | _=>rfl
 all_goals first
  | rfl
  | (simp_all;done)
theorem Et{o:Oper}{st:St}{dst:Option Nat}{d:D}(h:∀t,dst=some t→t∉o.looksAt ops):qL P Γ ops o (st.put dst d)=qL P Γ ops o st:=by
 cases dst with
 | none=>rfl
 | some t=>
  have ht:=h t rfl
  have h1:OG P Γ o (st.put (some t) d).bare (ev (st.put (some t) d))=OG P Γ o st.bare (ev st):=by
   rw[Mx]
   exact Jl o st.bare fun x hx=>Xw fun e=>ht (by
    subst e
    exact List.mem_append_left _ (List.mem_filterMap.2 ⟨.tmp t,by simpa using hx,rfl⟩))
  have h2:gd ops o (st.put (some t) d)=gd ops o st:=by
   unfold gd
   cases hg:o.guard with
   | none=>rfl
   | some g=>
    obtain⟨j,want⟩:=g
    dsimp only
    cases hd:(ops[j]?).bind (·.dst) with
    | none=>rfl
    | some i=>
     have hne:t≠i:=fun e=>ht (by
      subst e
      refine List.mem_append_right _ ?_
      simp[hg,hd])
     dsimp only[St.put]
     rw[List.getD_eq_getElem?_getD,List.getD_eq_getElem?_getD,List.getElem?_set_ne hne]
  unfold qL
  rw[h1,h2]
  rfl
end
end Go.Eng
